/- Functions of the program, each as a Lean function over the layer HL: a call answers what the Lean function answers, where it answers. -/
import Derived.Test.YtpjabhpfaahgoaaProg
import Derived.Test.YtpjabhpfaahgoaaHLx
namespace Go.Proofs.Ytpjabhpfaahgoaa.X
open Go.Proofs.Ytpjabhpfaahgoaa.HL
set_option linter.unusedVariables false
set_option linter.unusedSimpArgs false
set_option maxRecDepth 20000
set_option maxHeartbeats 4000000
theorem st53 : StructAt Try.prog 53 [(0, 1), (1, 1), (2, 1), (3, 1), (4, 1)] [(.int .i64 0), (Sl.hv Sl.nil), (.int .i64 0), (.int .i64 0), (.bool false)] := structAt_mk (zv := (.agg #[(.int .i64 0), (.slice none 0 0), (.int .i64 0), (.int .i64 0), (.bool false)])) (by kernel_rfl) (by kernel_rfl) (fun β => VRels.cons (.int _ _) (VRels.cons (.slNil none) (VRels.cons (.int _ _) (VRels.cons (.int _ _) (VRels.cons (.bool _) (VRels.nil β))))))
theorem ext34 : ExtAt Try.prog 34 Extern.BytealgIndexByte.indexByte := ⟨Try.f34, Try.func34, by kernel_rfl, by kernel_rfl, by kernel_rfl, by kernel_rfl⟩
theorem tu3 : Try.prog.underlying 3 = some (.int .i64) := by kernel_rfl
theorem tu5 : Try.prog.underlying 5 = some (.int .u8) := by kernel_rfl
theorem za61 : (Try.prog.info? 61).map (·.zero) = some (some (.agg (Array.replicate 256 (.int .u16 0)))) := by kernel_rfl
theorem ta61 : Try.prog.underlying 61 = some (.array 256 59) := by kernel_rfl
theorem sz59 : ∃ q, Try.prog.info? 59 = some q ∧ q.size = 1 := size_mk' (by kernel_rfl)
theorem sc59 : Scalar Try.prog 59 := ⟨(.int .u16), by kernel_rfl, trivial⟩
theorem ia61 : IsAgg Try.prog 61 256 := isAgg_mk2 (by kernel_rfl) (by kernel_rfl)
theorem sz61 : ∃ q, Try.prog.info? 61 = some q ∧ q.size = 256 := size_mk' (by kernel_rfl)
theorem tu9 : Try.prog.underlying 9 = some .string := by kernel_rfl
theorem tu25 : Try.prog.underlying 25 = some (.pointer 53) := by kernel_rfl
theorem fi53_1 : fieldInfo Try.prog 53 1 = some (1, 31, 1) := by kernel_rfl
theorem sc31 : Scalar Try.prog 31 := ⟨(.slice 5), by kernel_rfl, trivial⟩
theorem tu31 : Try.prog.underlying 31 = some (.slice 5) := by kernel_rfl
theorem fi53_0 : fieldInfo Try.prog 53 0 = some (0, 3, 1) := by kernel_rfl
theorem sc3 : Scalar Try.prog 3 := ⟨(.int .i64), by kernel_rfl, trivial⟩
theorem fi53_4 : fieldInfo Try.prog 53 4 = some (4, 4, 1) := by kernel_rfl
theorem sz4 : ∃ q, Try.prog.info? 4 = some q ∧ q.size = 1 := size_mk' (by kernel_rfl)
theorem el31 : ElemAt Try.prog 31 5 1 [(.int .u8 0)] := elemAt_mk (zv := (.int .u8 0)) (by_ := 1) (by kernel_rfl) (by kernel_rfl) (by decide) (fun β => VRels.cons (.int _ _) (VRels.nil β)) rfl (by decide) rfl
theorem sz31 : ∃ q, Try.prog.info? 31 = some q ∧ q.size = 1 := size_mk' (by kernel_rfl)
theorem sc4 : Scalar Try.prog 4 := ⟨.bool, by kernel_rfl, trivial⟩
theorem sz5 : ∃ q, Try.prog.info? 5 = some q ∧ q.size = 1 := size_mk' (by kernel_rfl)
theorem sc5 : Scalar Try.prog 5 := ⟨(.int .u8), by kernel_rfl, trivial⟩
theorem si5 : SizeIs Try.prog 5 1 1 := sizeIs_mk (by kernel_rfl)
theorem fi53_2 : fieldInfo Try.prog 53 2 = some (2, 3, 1) := by kernel_rfl
theorem sz3 : ∃ q, Try.prog.info? 3 = some q ∧ q.size = 1 := size_mk' (by kernel_rfl)
theorem fi53_3 : fieldInfo Try.prog 53 3 = some (3, 3, 1) := by kernel_rfl
theorem tu68 : Try.prog.underlying 68 = some (.int .u32) := by kernel_rfl
theorem sc9 : Scalar Try.prog 9 := ⟨.string, by kernel_rfl, trivial⟩
theorem zi9 : (Try.prog.info? 9).map (·.zero) = some (some (.string ⟨#[]⟩)) := by kernel_rfl
theorem zr9 : ∀ β, VRels β [(.str [])] (Value.cells (.string ⟨#[]⟩)) := fun β => VRels.cons (.str []) (VRels.nil β)
theorem sz9 : ∃ q, Try.prog.info? 9 = some q ∧ q.size = 1 := size_mk' (by kernel_rfl)
theorem tu50 : Try.prog.underlying 50 = some (.func #[33] #[] false) := by kernel_rfl
theorem zi3 : (Try.prog.info? 3).map (·.zero) = some (some (.int .i64 0)) := by kernel_rfl
theorem zr3 : ∀ β, VRels β [(.int .i64 0)] (Value.cells (.int .i64 0)) := fun β => VRels.cons (.int _ _) (VRels.nil β)
theorem tu22 : Try.prog.underlying 22 = some (.int .u16) := by kernel_rfl
theorem tu23 : Try.prog.underlying 23 = some (.slice 30) := by kernel_rfl
theorem sz30 : ∃ q, Try.prog.info? 30 = some q ∧ q.size = 3 := size_mk' (by kernel_rfl)
theorem fi30_1 : fieldInfo Try.prog 30 1 = some (1, 9, 1) := by kernel_rfl
theorem fi30_0 : fieldInfo Try.prog 30 0 = some (0, 3, 1) := by kernel_rfl
theorem fi30_2 : fieldInfo Try.prog 30 2 = some (2, 3, 1) := by kernel_rfl
theorem tu36 : Try.prog.underlying 36 = some (.slice 9) := by kernel_rfl
theorem tu4 : Try.prog.underlying 4 = some .bool := by kernel_rfl
theorem zi36 : (Try.prog.info? 36).map (·.zero) = some (some (.slice none 0 0)) := by kernel_rfl
theorem zr36 : ∀ β, VRels β [(Sl.hv Sl.nil)] (Value.cells (.slice none 0 0)) := fun β => VRels.cons (.slNil none) (VRels.nil β)
theorem zi4 : (Try.prog.info? 4).map (·.zero) = some (some (.bool false)) := by kernel_rfl
theorem zr4 : ∀ β, VRels β [(.bool false)] (Value.cells (.bool false)) := fun β => VRels.cons (.bool _) (VRels.nil β)
theorem sz36 : ∃ q, Try.prog.info? 36 = some q ∧ q.size = 1 := size_mk' (by kernel_rfl)
theorem sc36 : Scalar Try.prog 36 := ⟨(.slice 9), by kernel_rfl, trivial⟩
theorem el36 : ElemAt Try.prog 36 9 1 [(.str [])] := elemAt_mk (zv := (.string ⟨#[]⟩)) (by_ := 16) (by kernel_rfl) (by kernel_rfl) (by decide) (fun β => VRels.cons (.str []) (VRels.nil β)) rfl (by decide) rfl
namespace sendq_New
abbrev id : Nat := 8
theorem at_ : FnAt Try.prog 8 Try.f8 := ⟨Try.func8, by kernel_rfl⟩
noncomputable def c0 : Code := (Try.f8.body).getD .skip
noncomputable def c1 : Code := match c0 with | .seq x _ => x | _ => .skip
noncomputable def c2 : Code := match c0 with | .seq _ x => x | _ => .skip
noncomputable def c3 : Code := match c2 with | .seq x _ => x | _ => .skip
noncomputable def c4 : Code := match c3 with | .seq x _ => x | _ => .skip
noncomputable def c5 : Code := match c3 with | .seq _ x => x | _ => .skip
noncomputable def c6 : Code := match c5 with | .cond _ x _ => x | _ => .skip
noncomputable def c7 : Code := match c6 with | .seq x _ => x | _ => .skip
noncomputable def c8 : Code := match c6 with | .seq _ x => x | _ => .skip
noncomputable def c9 : Code := match c5 with | .cond _ _ x => x | _ => .skip
noncomputable def c10 : Code := match c2 with | .seq _ x => x | _ => .skip
noncomputable def c11 : Code := match c10 with | .seq x _ => x | _ => .skip
noncomputable def c12 : Code := match c10 with | .seq _ x => x | _ => .skip
theorem e0 : c0 = .seq c1 c2 := by kernel_rfl
noncomputable def r1 : Array Oper := match c1 with | .region _ x _ => x | _ => #[]
theorem e1 : c1 = .region 0 r1 false := by kernel_rfl
theorem e2 : c2 = .seq c3 c10 := by kernel_rfl
theorem e3 : c3 = .seq c4 c5 := by kernel_rfl
noncomputable def r4 : Array Oper := match c4 with | .region _ x _ => x | _ => #[]
theorem e4 : c4 = .region 1 r4 false := by kernel_rfl
theorem e5 : c5 = .cond (.tmp 9) c6 c9 := by kernel_rfl
theorem e6 : c6 = .seq c7 c8 := by kernel_rfl
noncomputable def r7 : Array Oper := match c7 with | .region _ x _ => x | _ => #[]
theorem e7 : c7 = .region 2 r7 false := by kernel_rfl
theorem e8 : c8 = .ret := by kernel_rfl
theorem e9 : c9 = .skip := by kernel_rfl
theorem e10 : c10 = .seq c11 c12 := by kernel_rfl
noncomputable def r11 : Array Oper := match c11 with | .region _ x _ => x | _ => #[]
theorem e11 : c11 = .region 3 r11 false := by kernel_rfl
theorem e12 : c12 = .ret := by kernel_rfl
theorem body : Try.f8.body = some c0 := by kernel_rfl
section
variable {base : Nat} {W0 : World} {β0 : Bt}
def J0  (y0 : Int) (y9 : Bool) (S : HS) : Option (((Option HA) × Int) × HS) :=
  (if y9 = true then
  some ((none, 2), S) else
  (letv (HS.new S (.cells 5 [[(.int .i64 y0), (Sl.hv Sl.nil), (.int .i64 0), (.int .i64 0), (.bool false)]] true)) fun p3 =>
  some (((some (HA.cell0 S.next)), 0), p3)))
theorem J0_snd   {y0 : Int} {y9 : Bool} {S : HS} {p : ((Option HA) × Int) × HS} {g1 g2 g3 g4 g5 g6 g7 g8 g10 g11 g12 : HV} (h : J0  y0 y9 S = some p) : HRun Try.prog base W0 β0 8 none [.code c5, .code c10] ⟨[(.int .i64 y0), g1, g2, g3, g4, g5, g6, g7, g8, (.bool y9), g10, g11, g12], []⟩ S (fun v S1 => v = (.tup [(.ptr p.1.1), (.int .i64 p.1.2)]) ∧ S1 = p.2) := by
  unfold J0 at h
  rcases ifc h with ⟨hc2, h⟩ | ⟨hc2, h⟩
  · refine q_cond_t e5 (.tmp rfl) hc2 ?_
    refine q_seq e6 ?_
    refine q_region e7 rfl ?_
    refine q_op (dst := some 2) rfl (fun _ ho => ok_assign ho (.const fun _ => .ptrNil)) ?_
    refine q_op (dst := some 3) rfl (fun _ ho => ok_assign ho (.int _ _)) ?_
    refine hr_region_end ?_
    try dsimp only [HAct.put, List.set_cons_zero, List.set_cons_succ]
    cases h
    exact q_ret e8 at_.at_ rfl (res2 rfl rfl rfl) ⟨rfl, rfl⟩
  · refine q_cond_f e5 (.tmp rfl) (bfalse hc2) ?_
    refine q_skipc e9 ?_
    refine q_seq e10 ?_
    refine q_region e11 rfl ?_
    refine q_op (dst := some 10) rfl (fun _ ho => ok_move ho (.tmp rfl)) ?_
    refine q_op (dst := some 11) rfl (fun _ ho => ok_build (is := [0]) (xs := [(.tmp 10)]) (r := [(.int .i64 y0), (Sl.hv Sl.nil), (.int .i64 0), (.int .i64 0), (.bool false)]) st53 ho rfl rfl (.cons (.tmp rfl) Evs.nil) rfl) ?_
    obtain ⟨p3, hp3, h⟩ := leto h
    refine q_op (dst := some 12) rfl (fun _ ho => ok_box_e ho (.tmp rfl) (Nat.zero_lt_succ _) rfl hp3) ?_
    refine q_op (dst := some 2) rfl (fun _ ho => ok_assign ho (.tmp rfl)) ?_
    try dsimp only [HAct.put, List.set_cons_zero, List.set_cons_succ]
    refine q_op (dst := some 3) rfl (fun _ ho => ok_assign ho (.int _ _)) ?_
    refine hr_region_end ?_
    try dsimp only [HAct.put, List.set_cons_zero, List.set_cons_succ]
    cases h
    exact q_ret e12 at_.at_ rfl (res2 rfl rfl rfl) ⟨rfl, rfl⟩
def f (x0 : Int) (S : HS) : Option (((Option HA) × Int) × HS) :=
  (if x0 < 512 then
  J0 x0 true S else
  J0 x0 (decide (x0 > 65536)) S)
theorem snd {x0 : Int} {S : HS}  {p : ((Option HA) × Int) × HS} (h : f x0 S = some p) : HCall Try.prog base W0 β0 8 [(.int .i64 x0)] S (fun v S1 => v = (.tup [(.ptr p.1.1), (.int .i64 p.1.2)]) ∧ S1 = p.2) := by
  unfold f at h
  refine HCall.of_run at_.at_ body ?_
  show HRun Try.prog base W0 β0 8 none [.code c0] ⟨[(.int .i64 x0), .tup [], .tup [], .tup [], .tup [], .tup [], .tup [], .tup [], .tup [], .tup [], .tup [], .tup [], .tup []], []⟩ S _
  refine q_seq e0 ?_
  refine q_region e1 rfl ?_
  refine q_op (dst := some 2) rfl (fun _ ho => ok_assign ho (.const fun _ => .ptrNil)) ?_
  refine q_op (dst := some 3) rfl (fun _ ho => ok_assign ho (.int _ _)) ?_
  refine hr_region_end ?_
  try dsimp only [HAct.put, List.set_cons_zero, List.set_cons_succ]
  refine q_seq e2 ?_
  refine q_seq e3 ?_
  refine q_region e4 rfl ?_
  refine q_op (dst := some 4) rfl (fun _ ho => ok_move ho (.tmp rfl)) ?_
  refine q_op (dst := some 5) rfl (fun _ ho => ok_ibin ho (.tmp rfl) (.int _ _) rfl) ?_
  refine q_op (dst := some 6) rfl (fun _ ho => ok_move ho (.tmp rfl)) ?_
  rcases ifc h with ⟨hc1, h⟩ | ⟨hc1, h⟩
  · refine q_skip (dst := some 7) (t := 6) rfl rfl rfl (decide_eq_true hc1) ?_
    try dsimp only [HAct.put, List.set_cons_zero, List.set_cons_succ]
    refine q_skip (dst := some 8) (t := 6) rfl rfl rfl (decide_eq_true hc1) ?_
    refine q_op (dst := some 9) rfl (fun _ ho => ok_pick_tt ho (.tmp rfl) (decide_eq_true hc1) (.bool _)) ?_
    refine hr_region_end ?_
    try dsimp only [HAct.put, List.set_cons_zero, List.set_cons_succ]
    try dsimp only [HAct.put, List.set_cons_zero, List.set_cons_succ]
    exact J0_snd  h
  · refine q_op_g (t := 6) (dst := some 7) rfl rfl rfl (decide_eq_false hc1) (fun _ ho => ok_move ho (.tmp rfl)) ?_
    try dsimp only [HAct.put, List.set_cons_zero, List.set_cons_succ]
    refine q_op_g (t := 6) (dst := some 8) rfl rfl rfl (decide_eq_false hc1) (fun _ ho => ok_ibin ho (.tmp rfl) (.int _ _) rfl) ?_
    refine q_op (dst := some 9) rfl (fun _ ho => ok_pick_ff ho (.tmp rfl) (decide_eq_false hc1) (.tmp rfl)) ?_
    refine hr_region_end ?_
    try dsimp only [HAct.put, List.set_cons_zero, List.set_cons_succ]
    try dsimp only [HAct.put, List.set_cons_zero, List.set_cons_succ]
    exact J0_snd  h
end
end sendq_New
namespace valid_letter
abbrev id : Nat := 35
theorem at_ : FnAt Try.prog 35 Try.f35 := ⟨Try.func35, by kernel_rfl⟩
noncomputable def c0 : Code := (Try.f35.body).getD .skip
noncomputable def c1 : Code := match c0 with | .seq x _ => x | _ => .skip
noncomputable def c2 : Code := match c0 with | .seq _ x => x | _ => .skip
noncomputable def c3 : Code := match c2 with | .seq x _ => x | _ => .skip
noncomputable def c4 : Code := match c2 with | .seq _ x => x | _ => .skip
theorem e0 : c0 = .seq c1 c2 := by kernel_rfl
noncomputable def r1 : Array Oper := match c1 with | .region _ x _ => x | _ => #[]
theorem e1 : c1 = .region 0 r1 false := by kernel_rfl
theorem e2 : c2 = .seq c3 c4 := by kernel_rfl
noncomputable def r3 : Array Oper := match c3 with | .region _ x _ => x | _ => #[]
theorem e3 : c3 = .region 1 r3 false := by kernel_rfl
theorem e4 : c4 = .ret := by kernel_rfl
theorem body : Try.f35.body = some c0 := by kernel_rfl
section
variable {base : Nat} {W0 : World} {β0 : Bt}
def J1  (y16 : Bool) : Option (Bool) :=
  some y16
theorem J1_snd   {y16 : Bool} {S : HS} {p : Bool} {g0 g1 g2 g3 g4 g5 g6 g7 g8 g9 g10 g11 g12 g13 g14 g15 : HV} (h : J1  y16 = some p) : HRun Try.prog base W0 β0 35 none [.inRegion r3 [14], .code c4] ⟨[g0, g1, g2, g3, g4, g5, g6, g7, g8, g9, g10, g11, g12, g13, g14, g15, (.bool y16)], []⟩ S (fun v S1 => v = (.bool p) ∧ S1 = S) := by
  unfold J1 at h
  refine q_op (dst := some 2) rfl (fun _ ho => ok_assign ho (.tmp rfl)) ?_
  refine hr_region_end ?_
  try dsimp only [HAct.put, List.set_cons_zero, List.set_cons_succ]
  cases h
  exact q_ret e4 at_.at_ rfl (res1 rfl rfl) ⟨rfl, rfl⟩
def J2  (y9 : Bool) (y15 : Bool) : Option (Bool) :=
  (if y9 = true then
  J1 true else
  J1 y15)
theorem J2_snd   {y9 : Bool} {y15 : Bool} {S : HS} {p : Bool} {g0 g1 g2 g3 g4 g5 g6 g7 g8 g10 g11 g12 g13 g14 g16 : HV} (h : J2  y9 y15 = some p) : HRun Try.prog base W0 β0 35 none [.inRegion r3 [13, 14], .code c4] ⟨[g0, g1, g2, g3, g4, g5, g6, g7, g8, (.bool y9), g10, g11, g12, g13, g14, (.bool y15), g16], []⟩ S (fun v S1 => v = (.bool p) ∧ S1 = S) := by
  unfold J2 at h
  rcases ifc h with ⟨hc4, h⟩ | ⟨hc4, h⟩
  · refine q_op (dst := some 16) rfl (fun _ ho => ok_pick_tt ho (.tmp rfl) hc4 (.bool _)) ?_
    try dsimp only [HAct.put, List.set_cons_zero, List.set_cons_succ]
    exact J1_snd  h
  · refine q_op (dst := some 16) rfl (fun _ ho => ok_pick_ff ho (.tmp rfl) (bfalse hc4) (.tmp rfl)) ?_
    try dsimp only [HAct.put, List.set_cons_zero, List.set_cons_succ]
    exact J1_snd  h
def J0  (y0 : Int) (y8 : Bool) : Option (Bool) :=
  (if y8 = true then
  J1 true else
  (if y0 ≥ 65 then
  J2 y8 (decide (y0 ≤ 90)) else
  J2 y8 false))
theorem J0_snd   {y0 : Int} {y8 : Bool} {S : HS} {p : Bool} {g1 g2 g3 g4 g5 g6 g7 g9 g10 g11 g12 g13 g14 g15 g16 : HV} (h : J0  y0 y8 = some p) : HRun Try.prog base W0 β0 35 none [.inRegion r3 [6, 7, 8, 9, 10, 11, 12, 13, 14], .code c4] ⟨[(.int .i64 y0), g1, g2, g3, g4, g5, g6, g7, (.bool y8), g9, g10, g11, g12, g13, g14, g15, g16], []⟩ S (fun v S1 => v = (.bool p) ∧ S1 = S) := by
  unfold J0 at h
  refine q_op (dst := some 9) rfl (fun _ ho => ok_move ho (.tmp rfl)) ?_
  rcases ifc h with ⟨hc2, h⟩ | ⟨hc2, h⟩
  · refine q_skip (dst := some 10) (t := 9) rfl rfl rfl hc2 ?_
    try dsimp only [HAct.put, List.set_cons_zero, List.set_cons_succ]
    refine q_skip (dst := some 11) (t := 9) rfl rfl rfl hc2 ?_
    refine q_skip (dst := some 12) (t := 9) rfl rfl rfl hc2 ?_
    refine q_skip_u (dst := some 13) (t := 12) rfl rfl rfl ?_
    refine q_skip_u (dst := some 14) (t := 12) rfl rfl rfl ?_
    try dsimp only [HAct.put, List.set_cons_zero, List.set_cons_succ]
    refine q_skip (dst := some 15) (t := 9) rfl rfl rfl hc2 ?_
    refine q_op (dst := some 16) rfl (fun _ ho => ok_pick_tt ho (.tmp rfl) hc2 (.bool _)) ?_
    try dsimp only [HAct.put, List.set_cons_zero, List.set_cons_succ]
    exact J1_snd  h
  · refine q_op_g (t := 9) (dst := some 10) rfl rfl rfl (bfalse hc2) (fun _ ho => ok_move ho (.tmp rfl)) ?_
    try dsimp only [HAct.put, List.set_cons_zero, List.set_cons_succ]
    refine q_op_g (t := 9) (dst := some 11) rfl rfl rfl (bfalse hc2) (fun _ ho => ok_ibin ho (.tmp rfl) (.int _ _) rfl) ?_
    refine q_op_g (t := 9) (dst := some 12) rfl rfl rfl (bfalse hc2) (fun _ ho => ok_move ho (.tmp rfl)) ?_
    rcases ifc h with ⟨hc3, h⟩ | ⟨hc3, h⟩
    · refine q_op_g (t := 12) (dst := some 13) rfl rfl rfl (decide_eq_true hc3) (fun _ ho => ok_move ho (.tmp rfl)) ?_
      refine q_op_g (t := 12) (dst := some 14) rfl rfl rfl (decide_eq_true hc3) (fun _ ho => ok_ibin ho (.tmp rfl) (.int _ _) rfl) ?_
      try dsimp only [HAct.put, List.set_cons_zero, List.set_cons_succ]
      refine q_op_g (t := 9) (dst := some 15) rfl rfl rfl (bfalse hc2) (fun _ ho => ok_pick_tt ho (.tmp rfl) (decide_eq_true hc3) (.tmp rfl)) ?_
      try dsimp only [HAct.put, List.set_cons_zero, List.set_cons_succ]
      exact J2_snd  h
    · refine q_skip (dst := some 13) (t := 12) rfl rfl rfl (decide_eq_false hc3) ?_
      refine q_skip (dst := some 14) (t := 12) rfl rfl rfl (decide_eq_false hc3) ?_
      try dsimp only [HAct.put, List.set_cons_zero, List.set_cons_succ]
      refine q_op_g (t := 9) (dst := some 15) rfl rfl rfl (bfalse hc2) (fun _ ho => ok_pick_ff ho (.tmp rfl) (decide_eq_false hc3) (.bool _)) ?_
      try dsimp only [HAct.put, List.set_cons_zero, List.set_cons_succ]
      exact J2_snd  h
def f (x0 : Int) : Option (Bool) :=
  (if x0 ≥ 97 then
  J0 x0 (decide (x0 ≤ 122)) else
  J0 x0 false)
theorem snd {x0 : Int} {S : HS}  {p : Bool} (h : f x0 = some p) : HCall Try.prog base W0 β0 35 [(.int .i64 x0)] S (fun v S1 => v = (.bool p) ∧ S1 = S) := by
  unfold f at h
  refine HCall.of_run at_.at_ body ?_
  show HRun Try.prog base W0 β0 35 none [.code c0] ⟨[(.int .i64 x0), .tup [], .tup [], .tup [], .tup [], .tup [], .tup [], .tup [], .tup [], .tup [], .tup [], .tup [], .tup [], .tup [], .tup [], .tup [], .tup []], []⟩ S _
  refine q_seq e0 ?_
  refine q_region e1 rfl ?_
  refine q_op (dst := some 2) rfl (fun _ ho => ok_assign ho (.bool _)) ?_
  refine hr_region_end ?_
  try dsimp only [HAct.put, List.set_cons_zero, List.set_cons_succ]
  refine q_seq e2 ?_
  refine q_region e3 rfl ?_
  refine q_op (dst := some 3) rfl (fun _ ho => ok_move ho (.tmp rfl)) ?_
  refine q_op (dst := some 4) rfl (fun _ ho => ok_ibin ho (.tmp rfl) (.int _ _) rfl) ?_
  refine q_op (dst := some 5) rfl (fun _ ho => ok_move ho (.tmp rfl)) ?_
  rcases ifc h with ⟨hc1, h⟩ | ⟨hc1, h⟩
  · refine q_op_g (t := 5) (dst := some 6) rfl rfl rfl (decide_eq_true hc1) (fun _ ho => ok_move ho (.tmp rfl)) ?_
    try dsimp only [HAct.put, List.set_cons_zero, List.set_cons_succ]
    refine q_op_g (t := 5) (dst := some 7) rfl rfl rfl (decide_eq_true hc1) (fun _ ho => ok_ibin ho (.tmp rfl) (.int _ _) rfl) ?_
    refine q_op (dst := some 8) rfl (fun _ ho => ok_pick_tt ho (.tmp rfl) (decide_eq_true hc1) (.tmp rfl)) ?_
    try dsimp only [HAct.put, List.set_cons_zero, List.set_cons_succ]
    exact J0_snd  h
  · refine q_skip (dst := some 6) (t := 5) rfl rfl rfl (decide_eq_false hc1) ?_
    try dsimp only [HAct.put, List.set_cons_zero, List.set_cons_succ]
    refine q_skip (dst := some 7) (t := 5) rfl rfl rfl (decide_eq_false hc1) ?_
    refine q_op (dst := some 8) rfl (fun _ ho => ok_pick_ff ho (.tmp rfl) (decide_eq_false hc1) (.bool _)) ?_
    try dsimp only [HAct.put, List.set_cons_zero, List.set_cons_succ]
    exact J0_snd  h
end
end valid_letter
namespace internal_stringslite_IndexByte
abbrev id : Nat := 31
theorem at_ : FnAt Try.prog 31 Try.f31 := ⟨Try.func31, by kernel_rfl⟩
noncomputable def c0 : Code := (Try.f31.body).getD .skip
noncomputable def c1 : Code := match c0 with | .seq x _ => x | _ => .skip
noncomputable def c2 : Code := match c0 with | .seq _ x => x | _ => .skip
noncomputable def c3 : Code := match c2 with | .seq x _ => x | _ => .skip
noncomputable def c4 : Code := match c2 with | .seq _ x => x | _ => .skip
theorem e0 : c0 = .seq c1 c2 := by kernel_rfl
noncomputable def r1 : Array Oper := match c1 with | .region _ x _ => x | _ => #[]
theorem e1 : c1 = .region 0 r1 false := by kernel_rfl
theorem e2 : c2 = .seq c3 c4 := by kernel_rfl
noncomputable def r3 : Array Oper := match c3 with | .region _ x _ => x | _ => #[]
theorem e3 : c3 = .region 1 r3 false := by kernel_rfl
theorem e4 : c4 = .ret := by kernel_rfl
theorem body : Try.f31.body = some c0 := by kernel_rfl
section
variable {base : Nat} {W0 : World} {β0 : Bt}
def f (x0 : (List UInt8)) (x1 : Int) : Option (Int) :=
  some (bidx x0 x1)
theorem snd {x0 : (List UInt8)} {x1 : Int} {S : HS}  {p : Int} (h : f x0 x1 = some p) : HCall Try.prog base W0 β0 31 [(.str x0), (.int .u8 x1)] S (fun v S1 => v = (.int .i64 p) ∧ S1 = S) := by
  unfold f at h
  refine HCall.of_run at_.at_ body ?_
  show HRun Try.prog base W0 β0 31 none [.code c0] ⟨[(.str x0), (.int .u8 x1), .tup [], .tup [], .tup [], .tup [], .tup [], .tup []], []⟩ S _
  refine q_seq e0 ?_
  refine q_region e1 rfl ?_
  refine q_op (dst := some 4) rfl (fun _ ho => ok_assign ho (.int _ _)) ?_
  refine hr_region_end ?_
  try dsimp only [HAct.put, List.set_cons_zero, List.set_cons_succ]
  refine q_seq e2 ?_
  refine q_region e3 rfl ?_
  refine q_op (dst := some 5) rfl (fun _ ho => ok_move ho (.tmp rfl)) ?_
  refine q_op (dst := some 6) rfl (fun _ ho => ok_move ho (.tmp rfl)) ?_
  refine q_op (dst := some 7) rfl (fun _ ho => ok_idxByte ho ext34 (.tmp rfl) (.tmp rfl)) ?_
  refine q_op (dst := some 4) rfl (fun _ ho => ok_assign ho (.tmp rfl)) ?_
  refine hr_region_end ?_
  try dsimp only [HAct.put, List.set_cons_zero, List.set_cons_succ]
  cases h
  exact q_ret e4 at_.at_ rfl (res1 rfl rfl) ⟨rfl, rfl⟩
end
end internal_stringslite_IndexByte
namespace strings_IndexByte
abbrev id : Nat := 27
theorem at_ : FnAt Try.prog 27 Try.f27 := ⟨Try.func27, by kernel_rfl⟩
noncomputable def c0 : Code := (Try.f27.body).getD .skip
noncomputable def c1 : Code := match c0 with | .seq x _ => x | _ => .skip
noncomputable def c2 : Code := match c0 with | .seq _ x => x | _ => .skip
noncomputable def c3 : Code := match c2 with | .seq x _ => x | _ => .skip
noncomputable def c4 : Code := match c2 with | .seq _ x => x | _ => .skip
theorem e0 : c0 = .seq c1 c2 := by kernel_rfl
noncomputable def r1 : Array Oper := match c1 with | .region _ x _ => x | _ => #[]
theorem e1 : c1 = .region 0 r1 false := by kernel_rfl
theorem e2 : c2 = .seq c3 c4 := by kernel_rfl
noncomputable def r3 : Array Oper := match c3 with | .region _ x _ => x | _ => #[]
theorem e3 : c3 = .region 1 r3 false := by kernel_rfl
theorem e4 : c4 = .ret := by kernel_rfl
theorem body : Try.f27.body = some c0 := by kernel_rfl
section
variable {base : Nat} {W0 : World} {β0 : Bt}
def f (x0 : (List UInt8)) (x1 : Int) : Option (Int) :=
  (Option.bind (internal_stringslite_IndexByte.f x0 x1) fun p1 =>
  some p1)
theorem snd {x0 : (List UInt8)} {x1 : Int} {S : HS}  {p : Int} (h : f x0 x1 = some p) : HCall Try.prog base W0 β0 27 [(.str x0), (.int .u8 x1)] S (fun v S1 => v = (.int .i64 p) ∧ S1 = S) := by
  unfold f at h
  refine HCall.of_run at_.at_ body ?_
  show HRun Try.prog base W0 β0 27 none [.code c0] ⟨[(.str x0), (.int .u8 x1), .tup [], .tup [], .tup [], .tup [], .tup [], .tup []], []⟩ S _
  refine q_seq e0 ?_
  refine q_region e1 rfl ?_
  refine q_op (dst := some 4) rfl (fun _ ho => ok_assign ho (.int _ _)) ?_
  refine hr_region_end ?_
  try dsimp only [HAct.put, List.set_cons_zero, List.set_cons_succ]
  refine q_seq e2 ?_
  refine q_region e3 rfl ?_
  refine q_op (dst := some 5) rfl (fun _ ho => ok_move ho (.tmp rfl)) ?_
  refine q_op (dst := some 6) rfl (fun _ ho => ok_move ho (.tmp rfl)) ?_
  obtain ⟨p1, hp1, h⟩ := bindo h
  refine q_call (dst := some 7) rfl (.func _) (.cons (.tmp rfl) (.cons (.tmp rfl) Evs.nil)) (HInv.static internal_stringslite_IndexByte.at_ internal_stringslite_IndexByte.body (internal_stringslite_IndexByte.snd  hp1)) ?_
  rintro _ _ ⟨rfl, rfl⟩
  refine q_op (dst := some 4) rfl (fun _ ho => ok_assign ho (.tmp rfl)) ?_
  refine hr_region_end ?_
  try dsimp only [HAct.put, List.set_cons_zero, List.set_cons_succ]
  cases h
  exact q_ret e4 at_.at_ rfl (res1 rfl rfl) ⟨rfl, rfl⟩
end
end strings_IndexByte
namespace valid_has
abbrev id : Nat := 36
theorem at_ : FnAt Try.prog 36 Try.f36 := ⟨Try.func36, by kernel_rfl⟩
noncomputable def c0 : Code := (Try.f36.body).getD .skip
noncomputable def c1 : Code := match c0 with | .seq x _ => x | _ => .skip
noncomputable def c2 : Code := match c0 with | .seq _ x => x | _ => .skip
noncomputable def c3 : Code := match c2 with | .seq x _ => x | _ => .skip
noncomputable def c4 : Code := match c2 with | .seq _ x => x | _ => .skip
theorem e0 : c0 = .seq c1 c2 := by kernel_rfl
noncomputable def r1 : Array Oper := match c1 with | .region _ x _ => x | _ => #[]
theorem e1 : c1 = .region 0 r1 false := by kernel_rfl
theorem e2 : c2 = .seq c3 c4 := by kernel_rfl
noncomputable def r3 : Array Oper := match c3 with | .region _ x _ => x | _ => #[]
theorem e3 : c3 = .region 1 r3 false := by kernel_rfl
theorem e4 : c4 = .ret := by kernel_rfl
theorem body : Try.f36.body = some c0 := by kernel_rfl
section
variable {base : Nat} {W0 : World} {β0 : Bt}
def f (x0 : (List UInt8)) (x1 : Int) : Option (Bool) :=
  (Option.bind (strings_IndexByte.f x0 (w8 x1)) fun p1 =>
  some (decide (p1 ≥ 0)))
theorem snd {x0 : (List UInt8)} {x1 : Int} {S : HS}  {p : Bool} (h : f x0 x1 = some p) : HCall Try.prog base W0 β0 36 [(.str x0), (.int .i64 x1)] S (fun v S1 => v = (.bool p) ∧ S1 = S) := by
  unfold f at h
  refine HCall.of_run at_.at_ body ?_
  show HRun Try.prog base W0 β0 36 none [.code c0] ⟨[(.str x0), (.int .i64 x1), .tup [], .tup [], .tup [], .tup [], .tup [], .tup [], .tup [], .tup []], []⟩ S _
  refine q_seq e0 ?_
  refine q_region e1 rfl ?_
  refine q_op (dst := some 4) rfl (fun _ ho => ok_assign ho (.bool _)) ?_
  refine hr_region_end ?_
  try dsimp only [HAct.put, List.set_cons_zero, List.set_cons_succ]
  refine q_seq e2 ?_
  refine q_region e3 rfl ?_
  refine q_op (dst := some 5) rfl (fun _ ho => ok_move ho (.tmp rfl)) ?_
  refine q_op (dst := some 6) rfl (fun _ ho => ok_move ho (.tmp rfl)) ?_
  refine q_op (dst := some 7) rfl (fun _ ho => ok_conv_int ho tu3 tu5 (.tmp rfl)) ?_
  obtain ⟨p1, hp1, h⟩ := bindo h
  refine q_call (dst := some 8) rfl (.func _) (.cons (.tmp rfl) (.cons (.tmp rfl) Evs.nil)) (HInv.static strings_IndexByte.at_ strings_IndexByte.body (strings_IndexByte.snd  hp1)) ?_
  rintro _ _ ⟨rfl, rfl⟩
  try dsimp only [HAct.put, List.set_cons_zero, List.set_cons_succ]
  refine q_op (dst := some 9) rfl (fun _ ho => ok_ibin ho (.tmp rfl) (.int _ _) rfl) ?_
  refine q_op (dst := some 4) rfl (fun _ ho => ok_assign ho (.tmp rfl)) ?_
  refine hr_region_end ?_
  try dsimp only [HAct.put, List.set_cons_zero, List.set_cons_succ]
  cases h
  exact q_ret e4 at_.at_ rfl (res1 rfl rfl) ⟨rfl, rfl⟩
end
end valid_has
namespace valid_kinds
abbrev id : Nat := 32
theorem at_ : FnAt Try.prog 32 Try.f32 := ⟨Try.func32, by kernel_rfl⟩
noncomputable def c0 : Code := (Try.f32.body).getD .skip
noncomputable def c1 : Code := match c0 with | .seq x _ => x | _ => .skip
noncomputable def c2 : Code := match c0 with | .seq _ x => x | _ => .skip
noncomputable def c3 : Code := match c2 with | .seq x _ => x | _ => .skip
noncomputable def c4 : Code := match c2 with | .seq _ x => x | _ => .skip
noncomputable def c5 : Code := match c4 with | .seq x _ => x | _ => .skip
noncomputable def c6 : Code := match c5 with | .seq x _ => x | _ => .skip
noncomputable def c7 : Code := match c5 with | .seq _ x => x | _ => .skip
noncomputable def c8 : Code := match c7 with | .block _ x => x | _ => .skip
noncomputable def c9 : Code := match c8 with | .loop x => x | _ => .skip
noncomputable def c10 : Code := match c9 with | .seq x _ => x | _ => .skip
noncomputable def c11 : Code := match c9 with | .seq _ x => x | _ => .skip
noncomputable def c12 : Code := match c11 with | .seq x _ => x | _ => .skip
noncomputable def c13 : Code := match c12 with | .cond _ x _ => x | _ => .skip
noncomputable def c14 : Code := match c12 with | .cond _ _ x => x | _ => .skip
noncomputable def c15 : Code := match c11 with | .seq _ x => x | _ => .skip
noncomputable def c16 : Code := match c15 with | .seq x _ => x | _ => .skip
noncomputable def c17 : Code := match c16 with | .block _ x => x | _ => .skip
noncomputable def c18 : Code := match c17 with | .seq x _ => x | _ => .skip
noncomputable def c19 : Code := match c17 with | .seq _ x => x | _ => .skip
noncomputable def c20 : Code := match c19 with | .seq x _ => x | _ => .skip
noncomputable def c21 : Code := match c19 with | .seq _ x => x | _ => .skip
noncomputable def c22 : Code := match c21 with | .seq x _ => x | _ => .skip
noncomputable def c23 : Code := match c21 with | .seq _ x => x | _ => .skip
noncomputable def c24 : Code := match c23 with | .seq x _ => x | _ => .skip
noncomputable def c25 : Code := match c24 with | .seq x _ => x | _ => .skip
noncomputable def c26 : Code := match c24 with | .seq _ x => x | _ => .skip
noncomputable def c27 : Code := match c26 with | .cond _ x _ => x | _ => .skip
noncomputable def c28 : Code := match c26 with | .cond _ _ x => x | _ => .skip
noncomputable def c29 : Code := match c23 with | .seq _ x => x | _ => .skip
noncomputable def c30 : Code := match c29 with | .seq x _ => x | _ => .skip
noncomputable def c31 : Code := match c30 with | .seq x _ => x | _ => .skip
noncomputable def c32 : Code := match c30 with | .seq _ x => x | _ => .skip
noncomputable def c33 : Code := match c32 with | .cond _ x _ => x | _ => .skip
noncomputable def c34 : Code := match c32 with | .cond _ _ x => x | _ => .skip
noncomputable def c35 : Code := match c29 with | .seq _ x => x | _ => .skip
noncomputable def c36 : Code := match c35 with | .seq x _ => x | _ => .skip
noncomputable def c37 : Code := match c36 with | .seq x _ => x | _ => .skip
noncomputable def c38 : Code := match c36 with | .seq _ x => x | _ => .skip
noncomputable def c39 : Code := match c38 with | .cond _ x _ => x | _ => .skip
noncomputable def c40 : Code := match c38 with | .cond _ _ x => x | _ => .skip
noncomputable def c41 : Code := match c35 with | .seq _ x => x | _ => .skip
noncomputable def c42 : Code := match c41 with | .seq x _ => x | _ => .skip
noncomputable def c43 : Code := match c42 with | .seq x _ => x | _ => .skip
noncomputable def c44 : Code := match c42 with | .seq _ x => x | _ => .skip
noncomputable def c45 : Code := match c44 with | .cond _ x _ => x | _ => .skip
noncomputable def c46 : Code := match c44 with | .cond _ _ x => x | _ => .skip
noncomputable def c47 : Code := match c41 with | .seq _ x => x | _ => .skip
noncomputable def c48 : Code := match c47 with | .seq x _ => x | _ => .skip
noncomputable def c49 : Code := match c48 with | .seq x _ => x | _ => .skip
noncomputable def c50 : Code := match c48 with | .seq _ x => x | _ => .skip
noncomputable def c51 : Code := match c50 with | .cond _ x _ => x | _ => .skip
noncomputable def c52 : Code := match c50 with | .cond _ _ x => x | _ => .skip
noncomputable def c53 : Code := match c47 with | .seq _ x => x | _ => .skip
noncomputable def c54 : Code := match c53 with | .seq x _ => x | _ => .skip
noncomputable def c55 : Code := match c54 with | .seq x _ => x | _ => .skip
noncomputable def c56 : Code := match c54 with | .seq _ x => x | _ => .skip
noncomputable def c57 : Code := match c56 with | .cond _ x _ => x | _ => .skip
noncomputable def c58 : Code := match c56 with | .cond _ _ x => x | _ => .skip
noncomputable def c59 : Code := match c53 with | .seq _ x => x | _ => .skip
noncomputable def c60 : Code := match c59 with | .seq x _ => x | _ => .skip
noncomputable def c61 : Code := match c59 with | .seq _ x => x | _ => .skip
noncomputable def c62 : Code := match c61 with | .cond _ x _ => x | _ => .skip
noncomputable def c63 : Code := match c61 with | .cond _ _ x => x | _ => .skip
noncomputable def c64 : Code := match c15 with | .seq _ x => x | _ => .skip
noncomputable def c65 : Code := match c4 with | .seq _ x => x | _ => .skip
noncomputable def c66 : Code := match c65 with | .seq x _ => x | _ => .skip
noncomputable def c67 : Code := match c65 with | .seq _ x => x | _ => .skip
theorem e0 : c0 = .seq c1 c2 := by kernel_rfl
noncomputable def r1 : Array Oper := match c1 with | .region _ x _ => x | _ => #[]
theorem e1 : c1 = .region 0 r1 false := by kernel_rfl
theorem e2 : c2 = .seq c3 c4 := by kernel_rfl
noncomputable def r3 : Array Oper := match c3 with | .region _ x _ => x | _ => #[]
theorem e3 : c3 = .region 1 r3 false := by kernel_rfl
theorem e4 : c4 = .seq c5 c65 := by kernel_rfl
theorem e5 : c5 = .seq c6 c7 := by kernel_rfl
noncomputable def r6 : Array Oper := match c6 with | .region _ x _ => x | _ => #[]
theorem e6 : c6 = .region 2 r6 false := by kernel_rfl
theorem e7 : c7 = .block 0 c8 := by kernel_rfl
theorem e8 : c8 = .loop c9 := by kernel_rfl
theorem e9 : c9 = .seq c10 c11 := by kernel_rfl
noncomputable def r10 : Array Oper := match c10 with | .region _ x _ => x | _ => #[]
theorem e10 : c10 = .region 3 r10 false := by kernel_rfl
theorem e11 : c11 = .seq c12 c15 := by kernel_rfl
theorem e12 : c12 = .cond (.tmp 6) c13 c14 := by kernel_rfl
theorem e13 : c13 = .skip := by kernel_rfl
theorem e14 : c14 = .exit 0 := by kernel_rfl
theorem e15 : c15 = .seq c16 c64 := by kernel_rfl
theorem e16 : c16 = .block 1 c17 := by kernel_rfl
theorem e17 : c17 = .seq c18 c19 := by kernel_rfl
noncomputable def r18 : Array Oper := match c18 with | .region _ x _ => x | _ => #[]
theorem e18 : c18 = .region 4 r18 false := by kernel_rfl
theorem e19 : c19 = .seq c20 c21 := by kernel_rfl
noncomputable def r20 : Array Oper := match c20 with | .region _ x _ => x | _ => #[]
theorem e20 : c20 = .region 5 r20 false := by kernel_rfl
theorem e21 : c21 = .seq c22 c23 := by kernel_rfl
noncomputable def r22 : Array Oper := match c22 with | .region _ x _ => x | _ => #[]
theorem e22 : c22 = .region 6 r22 false := by kernel_rfl
theorem e23 : c23 = .seq c24 c29 := by kernel_rfl
theorem e24 : c24 = .seq c25 c26 := by kernel_rfl
noncomputable def r25 : Array Oper := match c25 with | .region _ x _ => x | _ => #[]
theorem e25 : c25 = .region 7 r25 false := by kernel_rfl
theorem e26 : c26 = .cond (.tmp 25) c27 c28 := by kernel_rfl
noncomputable def r27 : Array Oper := match c27 with | .region _ x _ => x | _ => #[]
theorem e27 : c27 = .region 8 r27 false := by kernel_rfl
theorem e28 : c28 = .skip := by kernel_rfl
theorem e29 : c29 = .seq c30 c35 := by kernel_rfl
theorem e30 : c30 = .seq c31 c32 := by kernel_rfl
noncomputable def r31 : Array Oper := match c31 with | .region _ x _ => x | _ => #[]
theorem e31 : c31 = .region 9 r31 false := by kernel_rfl
theorem e32 : c32 = .cond (.tmp 35) c33 c34 := by kernel_rfl
noncomputable def r33 : Array Oper := match c33 with | .region _ x _ => x | _ => #[]
theorem e33 : c33 = .region 10 r33 false := by kernel_rfl
theorem e34 : c34 = .skip := by kernel_rfl
theorem e35 : c35 = .seq c36 c41 := by kernel_rfl
theorem e36 : c36 = .seq c37 c38 := by kernel_rfl
noncomputable def r37 : Array Oper := match c37 with | .region _ x _ => x | _ => #[]
theorem e37 : c37 = .region 11 r37 false := by kernel_rfl
theorem e38 : c38 = .cond (.tmp 43) c39 c40 := by kernel_rfl
noncomputable def r39 : Array Oper := match c39 with | .region _ x _ => x | _ => #[]
theorem e39 : c39 = .region 12 r39 false := by kernel_rfl
theorem e40 : c40 = .skip := by kernel_rfl
theorem e41 : c41 = .seq c42 c47 := by kernel_rfl
theorem e42 : c42 = .seq c43 c44 := by kernel_rfl
noncomputable def r43 : Array Oper := match c43 with | .region _ x _ => x | _ => #[]
theorem e43 : c43 = .region 13 r43 false := by kernel_rfl
theorem e44 : c44 = .cond (.tmp 54) c45 c46 := by kernel_rfl
noncomputable def r45 : Array Oper := match c45 with | .region _ x _ => x | _ => #[]
theorem e45 : c45 = .region 14 r45 false := by kernel_rfl
theorem e46 : c46 = .skip := by kernel_rfl
theorem e47 : c47 = .seq c48 c53 := by kernel_rfl
theorem e48 : c48 = .seq c49 c50 := by kernel_rfl
noncomputable def r49 : Array Oper := match c49 with | .region _ x _ => x | _ => #[]
theorem e49 : c49 = .region 15 r49 false := by kernel_rfl
theorem e50 : c50 = .cond (.tmp 68) c51 c52 := by kernel_rfl
noncomputable def r51 : Array Oper := match c51 with | .region _ x _ => x | _ => #[]
theorem e51 : c51 = .region 16 r51 false := by kernel_rfl
theorem e52 : c52 = .skip := by kernel_rfl
theorem e53 : c53 = .seq c54 c59 := by kernel_rfl
theorem e54 : c54 = .seq c55 c56 := by kernel_rfl
noncomputable def r55 : Array Oper := match c55 with | .region _ x _ => x | _ => #[]
theorem e55 : c55 = .region 17 r55 false := by kernel_rfl
theorem e56 : c56 = .cond (.tmp 78) c57 c58 := by kernel_rfl
noncomputable def r57 : Array Oper := match c57 with | .region _ x _ => x | _ => #[]
theorem e57 : c57 = .region 18 r57 false := by kernel_rfl
theorem e58 : c58 = .skip := by kernel_rfl
theorem e59 : c59 = .seq c60 c61 := by kernel_rfl
noncomputable def r60 : Array Oper := match c60 with | .region _ x _ => x | _ => #[]
theorem e60 : c60 = .region 19 r60 false := by kernel_rfl
theorem e61 : c61 = .cond (.tmp 86) c62 c63 := by kernel_rfl
noncomputable def r62 : Array Oper := match c62 with | .region _ x _ => x | _ => #[]
theorem e62 : c62 = .region 20 r62 false := by kernel_rfl
theorem e63 : c63 = .skip := by kernel_rfl
noncomputable def r64 : Array Oper := match c64 with | .region _ x _ => x | _ => #[]
theorem e64 : c64 = .region 21 r64 false := by kernel_rfl
theorem e65 : c65 = .seq c66 c67 := by kernel_rfl
noncomputable def r66 : Array Oper := match c66 with | .region _ x _ => x | _ => #[]
theorem e66 : c66 = .region 22 r66 false := by kernel_rfl
theorem e67 : c67 = .ret := by kernel_rfl
theorem body : Try.f32.body = some c0 := by kernel_rfl
section
variable {base : Nat} {W0 : World} {β0 : Bt}
def J15 (k : Nat) (rec0 : (Option HA) → (Option HA) → Int → HS → Option (((List HV)) × HS)) (y0 : (Option HA)) (y1 : (Option HA)) (y5 : Int) (S : HS) : Option (((List HV)) × HS) :=
  rec0 y0 y1 (w64 (y5 + 1)) S
theorem J15_snd {k : Nat} {rec0 : (Option HA) → (Option HA) → Int → HS → Option (((List HV)) × HS)} (hrec0 : ∀ ⦃y0 : (Option HA)⦄ ⦃y1 : (Option HA)⦄ ⦃y5 : Int⦄ ⦃S : HS⦄ ⦃p : ((List HV)) × HS⦄ ⦃g2 g3 g4 g6 g7 g8 g9 g10 g11 g12 g13 g14 g15 g16 g17 g18 g19 g20 g21 g22 g23 g24 g25 g26 g27 g28 g29 g30 g31 g32 g33 g34 g35 g36 g37 g38 g39 g40 g41 g42 g43 g44 g45 g46 g47 g48 g49 g50 g51 g52 g53 g54 g55 g56 g57 g58 g59 g60 g61 g62 g63 g64 g65 g66 g67 g68 g69 g70 g71 g72 g73 g74 g75 g76 g77 g78 g79 g80 g81 g82 g83 g84 g85 g86 g87 g88 g89 g90 g91 g92 g93 : HV⦄, rec0 y0 y1 y5 S = some p → HRun Try.prog base W0 β0 32 none [.inLoop c9, .inBlock 0, .code c65] ⟨[(.ptr y0), (.ptr y1), g2, g3, g4, (.int .i64 y5), g6, g7, g8, g9, g10, g11, g12, g13, g14, g15, g16, g17, g18, g19, g20, g21, g22, g23, g24, g25, g26, g27, g28, g29, g30, g31, g32, g33, g34, g35, g36, g37, g38, g39, g40, g41, g42, g43, g44, g45, g46, g47, g48, g49, g50, g51, g52, g53, g54, g55, g56, g57, g58, g59, g60, g61, g62, g63, g64, g65, g66, g67, g68, g69, g70, g71, g72, g73, g74, g75, g76, g77, g78, g79, g80, g81, g82, g83, g84, g85, g86, g87, g88, g89, g90, g91, g92, g93], []⟩ S (fun v S1 => v = (.agg p.1) ∧ S1 = p.2)) {y0 : (Option HA)} {y1 : (Option HA)} {y5 : Int} {S : HS} {p : ((List HV)) × HS} {g2 g3 g4 g6 g7 g8 g9 g10 g11 g12 g13 g14 g15 g16 g17 g18 g19 g20 g21 g22 g23 g24 g25 g26 g27 g28 g29 g30 g31 g32 g33 g34 g35 g36 g37 g38 g39 g40 g41 g42 g43 g44 g45 g46 g47 g48 g49 g50 g51 g52 g53 g54 g55 g56 g57 g58 g59 g60 g61 g62 g63 g64 g65 g66 g67 g68 g69 g70 g71 g72 g73 g74 g75 g76 g77 g78 g79 g80 g81 g82 g83 g84 g85 g86 g87 g88 g89 g90 g91 g92 g93 : HV} (h : J15 k rec0 y0 y1 y5 S = some p) : HRun Try.prog base W0 β0 32 none [.code c64, .inLoop c9, .inBlock 0, .code c65] ⟨[(.ptr y0), (.ptr y1), g2, g3, g4, (.int .i64 y5), g6, g7, g8, g9, g10, g11, g12, g13, g14, g15, g16, g17, g18, g19, g20, g21, g22, g23, g24, g25, g26, g27, g28, g29, g30, g31, g32, g33, g34, g35, g36, g37, g38, g39, g40, g41, g42, g43, g44, g45, g46, g47, g48, g49, g50, g51, g52, g53, g54, g55, g56, g57, g58, g59, g60, g61, g62, g63, g64, g65, g66, g67, g68, g69, g70, g71, g72, g73, g74, g75, g76, g77, g78, g79, g80, g81, g82, g83, g84, g85, g86, g87, g88, g89, g90, g91, g92, g93], []⟩ S (fun v S1 => v = (.agg p.1) ∧ S1 = p.2) := by
  unfold J15 at h
  refine q_region e64 rfl ?_
  refine q_op (dst := some 92) rfl (fun _ ho => ok_ibin ho (.tmp rfl) (.int _ _) rfl) ?_
  refine q_op (dst := some 5) rfl (fun _ ho => ok_move ho (.tmp rfl)) ?_
  refine hr_region_end ?_
  try dsimp only [HAct.put, List.set_cons_zero, List.set_cons_succ]
  try dsimp only [HAct.put, List.set_cons_zero, List.set_cons_succ]
  exact hrec0 h
def J14 (k : Nat) (rec0 : (Option HA) → (Option HA) → Int → HS → Option (((List HV)) × HS)) (y0 : (Option HA)) (y1 : (Option HA)) (y2 : Int) (y5 : Int) (S : HS) : Option (((List HV)) × HS) :=
  (Option.bind (valid_has.f ([0, 10, 13] : List UInt8) y2) fun p58 =>
  (if (!p58) = true then
  (Option.bind (y1) fun p60 =>
  (if 0 ≤ (y2 : Int) ∧ (y2 : Int) < 256 then
  (Option.bind (HS.ldI S .u16 (HA.fld p60 (Int.toNat y2))) fun p62 =>
  (Option.bind (y1) fun p63 =>
  (if 0 ≤ (y2 : Int) ∧ (y2 : Int) < 256 then
  (Option.bind (HS.sets S (HA.fld p63 (Int.toNat y2)) [(.int .u16 (ior .u16 p62 64))]) fun p65 =>
  J15 k rec0 y0 y1 y5 p65) else none))) else none)) else
  J15 k rec0 y0 y1 y5 S))
theorem J14_snd {k : Nat} {rec0 : (Option HA) → (Option HA) → Int → HS → Option (((List HV)) × HS)} (hrec0 : ∀ ⦃y0 : (Option HA)⦄ ⦃y1 : (Option HA)⦄ ⦃y5 : Int⦄ ⦃S : HS⦄ ⦃p : ((List HV)) × HS⦄ ⦃g2 g3 g4 g6 g7 g8 g9 g10 g11 g12 g13 g14 g15 g16 g17 g18 g19 g20 g21 g22 g23 g24 g25 g26 g27 g28 g29 g30 g31 g32 g33 g34 g35 g36 g37 g38 g39 g40 g41 g42 g43 g44 g45 g46 g47 g48 g49 g50 g51 g52 g53 g54 g55 g56 g57 g58 g59 g60 g61 g62 g63 g64 g65 g66 g67 g68 g69 g70 g71 g72 g73 g74 g75 g76 g77 g78 g79 g80 g81 g82 g83 g84 g85 g86 g87 g88 g89 g90 g91 g92 g93 : HV⦄, rec0 y0 y1 y5 S = some p → HRun Try.prog base W0 β0 32 none [.inLoop c9, .inBlock 0, .code c65] ⟨[(.ptr y0), (.ptr y1), g2, g3, g4, (.int .i64 y5), g6, g7, g8, g9, g10, g11, g12, g13, g14, g15, g16, g17, g18, g19, g20, g21, g22, g23, g24, g25, g26, g27, g28, g29, g30, g31, g32, g33, g34, g35, g36, g37, g38, g39, g40, g41, g42, g43, g44, g45, g46, g47, g48, g49, g50, g51, g52, g53, g54, g55, g56, g57, g58, g59, g60, g61, g62, g63, g64, g65, g66, g67, g68, g69, g70, g71, g72, g73, g74, g75, g76, g77, g78, g79, g80, g81, g82, g83, g84, g85, g86, g87, g88, g89, g90, g91, g92, g93], []⟩ S (fun v S1 => v = (.agg p.1) ∧ S1 = p.2)) {y0 : (Option HA)} {y1 : (Option HA)} {y2 : Int} {y5 : Int} {S : HS} {p : ((List HV)) × HS} {g3 g4 g6 g7 g8 g9 g10 g11 g12 g13 g14 g15 g16 g17 g18 g19 g20 g21 g22 g23 g24 g25 g26 g27 g28 g29 g30 g31 g32 g33 g34 g35 g36 g37 g38 g39 g40 g41 g42 g43 g44 g45 g46 g47 g48 g49 g50 g51 g52 g53 g54 g55 g56 g57 g58 g59 g60 g61 g62 g63 g64 g65 g66 g67 g68 g69 g70 g71 g72 g73 g74 g75 g76 g77 g78 g79 g80 g81 g82 g83 g84 g85 g86 g87 g88 g89 g90 g91 g92 g93 : HV} (h : J14 k rec0 y0 y1 y2 y5 S = some p) : HRun Try.prog base W0 β0 32 none [.code c59, .inBlock 1, .code c64, .inLoop c9, .inBlock 0, .code c65] ⟨[(.ptr y0), (.ptr y1), (.int .i64 y2), g3, g4, (.int .i64 y5), g6, g7, g8, g9, g10, g11, g12, g13, g14, g15, g16, g17, g18, g19, g20, g21, g22, g23, g24, g25, g26, g27, g28, g29, g30, g31, g32, g33, g34, g35, g36, g37, g38, g39, g40, g41, g42, g43, g44, g45, g46, g47, g48, g49, g50, g51, g52, g53, g54, g55, g56, g57, g58, g59, g60, g61, g62, g63, g64, g65, g66, g67, g68, g69, g70, g71, g72, g73, g74, g75, g76, g77, g78, g79, g80, g81, g82, g83, g84, g85, g86, g87, g88, g89, g90, g91, g92, g93], []⟩ S (fun v S1 => v = (.agg p.1) ∧ S1 = p.2) := by
  unfold J14 at h
  refine q_seq e59 ?_
  refine q_region e60 rfl ?_
  refine q_op (dst := some 84) rfl (fun _ ho => ok_move ho (.tmp rfl)) ?_
  obtain ⟨p58, hp58, h⟩ := bindo h
  refine q_call (dst := some 85) rfl (.func _) (.cons (.str _) (.cons (.tmp rfl) Evs.nil)) (HInv.static valid_has.at_ valid_has.body (valid_has.snd  hp58)) ?_
  rintro _ _ ⟨rfl, rfl⟩
  refine q_op (dst := some 86) rfl (fun _ ho => ok_not ho (.tmp rfl)) ?_
  refine hr_region_end ?_
  try dsimp only [HAct.put, List.set_cons_zero, List.set_cons_succ]
  rcases ifc h with ⟨hc59, h⟩ | ⟨hc59, h⟩
  · refine q_cond_t e61 (.tmp rfl) hc59 ?_
    refine q_region e62 rfl ?_
    refine q_op (dst := some 87) rfl (fun _ ho => ok_move ho (.tmp rfl)) ?_
    obtain ⟨p60, hp60, h⟩ := bindo h
    obtain ⟨hg61, h⟩ := gd h
    refine q_op (dst := some 88) rfl (fun _ ho => ok_indexAddr_arr ho ta61 sz59 (.tmp rfl) hp60 (.tmp rfl) hg61) ?_
    obtain ⟨p62, hp62, h⟩ := bindo h
    refine q_op (dst := some 89) rfl (fun _ ho => ok_load_s ho sc59 (.tmp rfl) rfl (ldI_out hp62)) ?_
    refine q_op (dst := some 90) rfl (fun _ ho => ok_ibin ho (.tmp rfl) (.int _ _) rfl) ?_
    try dsimp only [HAct.put, List.set_cons_zero, List.set_cons_succ]
    obtain ⟨p63, hp63, h⟩ := bindo h
    obtain ⟨hg64, h⟩ := gd h
    refine q_op (dst := some 91) rfl (fun _ ho => ok_indexAddr_arr ho ta61 sz59 (.tmp rfl) hp63 (.tmp rfl) hg64) ?_
    obtain ⟨p65, hp65, h⟩ := bindo h
    refine q_op (dst := none) rfl (fun _ ho => ok_store_s (v := (.int .u16 (ior .u16 p62 64))) ho sz59 (.tmp rfl) rfl (.tmp rfl) rfl hp65) ?_
    refine hr_region_end ?_
    try dsimp only [HAct.put, List.set_cons_zero, List.set_cons_succ]
    refine hr_inBlock ?_
    try dsimp only [HAct.put, List.set_cons_zero, List.set_cons_succ]
    exact J15_snd hrec0 h
  · refine q_cond_f e61 (.tmp rfl) (bfalse hc59) ?_
    refine q_skipc e63 ?_
    refine hr_inBlock ?_
    try dsimp only [HAct.put, List.set_cons_zero, List.set_cons_succ]
    exact J15_snd hrec0 h
def J13 (k : Nat) (rec0 : (Option HA) → (Option HA) → Int → HS → Option (((List HV)) × HS)) (y0 : (Option HA)) (y1 : (Option HA)) (y2 : Int) (y5 : Int) (y78 : Bool) (S : HS) : Option (((List HV)) × HS) :=
  (if y78 = true then
  (Option.bind (y1) fun p52 =>
  (if 0 ≤ (y2 : Int) ∧ (y2 : Int) < 256 then
  (Option.bind (HS.ldI S .u16 (HA.fld p52 (Int.toNat y2))) fun p54 =>
  (Option.bind (y1) fun p55 =>
  (if 0 ≤ (y2 : Int) ∧ (y2 : Int) < 256 then
  (Option.bind (HS.sets S (HA.fld p55 (Int.toNat y2)) [(.int .u16 (ior .u16 p54 32))]) fun p57 =>
  J14 k rec0 y0 y1 y2 y5 p57) else none))) else none)) else
  J14 k rec0 y0 y1 y2 y5 S)
theorem J13_snd {k : Nat} {rec0 : (Option HA) → (Option HA) → Int → HS → Option (((List HV)) × HS)} (hrec0 : ∀ ⦃y0 : (Option HA)⦄ ⦃y1 : (Option HA)⦄ ⦃y5 : Int⦄ ⦃S : HS⦄ ⦃p : ((List HV)) × HS⦄ ⦃g2 g3 g4 g6 g7 g8 g9 g10 g11 g12 g13 g14 g15 g16 g17 g18 g19 g20 g21 g22 g23 g24 g25 g26 g27 g28 g29 g30 g31 g32 g33 g34 g35 g36 g37 g38 g39 g40 g41 g42 g43 g44 g45 g46 g47 g48 g49 g50 g51 g52 g53 g54 g55 g56 g57 g58 g59 g60 g61 g62 g63 g64 g65 g66 g67 g68 g69 g70 g71 g72 g73 g74 g75 g76 g77 g78 g79 g80 g81 g82 g83 g84 g85 g86 g87 g88 g89 g90 g91 g92 g93 : HV⦄, rec0 y0 y1 y5 S = some p → HRun Try.prog base W0 β0 32 none [.inLoop c9, .inBlock 0, .code c65] ⟨[(.ptr y0), (.ptr y1), g2, g3, g4, (.int .i64 y5), g6, g7, g8, g9, g10, g11, g12, g13, g14, g15, g16, g17, g18, g19, g20, g21, g22, g23, g24, g25, g26, g27, g28, g29, g30, g31, g32, g33, g34, g35, g36, g37, g38, g39, g40, g41, g42, g43, g44, g45, g46, g47, g48, g49, g50, g51, g52, g53, g54, g55, g56, g57, g58, g59, g60, g61, g62, g63, g64, g65, g66, g67, g68, g69, g70, g71, g72, g73, g74, g75, g76, g77, g78, g79, g80, g81, g82, g83, g84, g85, g86, g87, g88, g89, g90, g91, g92, g93], []⟩ S (fun v S1 => v = (.agg p.1) ∧ S1 = p.2)) {y0 : (Option HA)} {y1 : (Option HA)} {y2 : Int} {y5 : Int} {y78 : Bool} {S : HS} {p : ((List HV)) × HS} {g3 g4 g6 g7 g8 g9 g10 g11 g12 g13 g14 g15 g16 g17 g18 g19 g20 g21 g22 g23 g24 g25 g26 g27 g28 g29 g30 g31 g32 g33 g34 g35 g36 g37 g38 g39 g40 g41 g42 g43 g44 g45 g46 g47 g48 g49 g50 g51 g52 g53 g54 g55 g56 g57 g58 g59 g60 g61 g62 g63 g64 g65 g66 g67 g68 g69 g70 g71 g72 g73 g74 g75 g76 g77 g79 g80 g81 g82 g83 g84 g85 g86 g87 g88 g89 g90 g91 g92 g93 : HV} (h : J13 k rec0 y0 y1 y2 y5 y78 S = some p) : HRun Try.prog base W0 β0 32 none [.code c56, .code c59, .inBlock 1, .code c64, .inLoop c9, .inBlock 0, .code c65] ⟨[(.ptr y0), (.ptr y1), (.int .i64 y2), g3, g4, (.int .i64 y5), g6, g7, g8, g9, g10, g11, g12, g13, g14, g15, g16, g17, g18, g19, g20, g21, g22, g23, g24, g25, g26, g27, g28, g29, g30, g31, g32, g33, g34, g35, g36, g37, g38, g39, g40, g41, g42, g43, g44, g45, g46, g47, g48, g49, g50, g51, g52, g53, g54, g55, g56, g57, g58, g59, g60, g61, g62, g63, g64, g65, g66, g67, g68, g69, g70, g71, g72, g73, g74, g75, g76, g77, (.bool y78), g79, g80, g81, g82, g83, g84, g85, g86, g87, g88, g89, g90, g91, g92, g93], []⟩ S (fun v S1 => v = (.agg p.1) ∧ S1 = p.2) := by
  unfold J13 at h
  rcases ifc h with ⟨hc51, h⟩ | ⟨hc51, h⟩
  · refine q_cond_t e56 (.tmp rfl) hc51 ?_
    refine q_region e57 rfl ?_
    refine q_op (dst := some 79) rfl (fun _ ho => ok_move ho (.tmp rfl)) ?_
    obtain ⟨p52, hp52, h⟩ := bindo h
    obtain ⟨hg53, h⟩ := gd h
    refine q_op (dst := some 80) rfl (fun _ ho => ok_indexAddr_arr ho ta61 sz59 (.tmp rfl) hp52 (.tmp rfl) hg53) ?_
    obtain ⟨p54, hp54, h⟩ := bindo h
    refine q_op (dst := some 81) rfl (fun _ ho => ok_load_s ho sc59 (.tmp rfl) rfl (ldI_out hp54)) ?_
    refine q_op (dst := some 82) rfl (fun _ ho => ok_ibin ho (.tmp rfl) (.int _ _) rfl) ?_
    try dsimp only [HAct.put, List.set_cons_zero, List.set_cons_succ]
    obtain ⟨p55, hp55, h⟩ := bindo h
    obtain ⟨hg56, h⟩ := gd h
    refine q_op (dst := some 83) rfl (fun _ ho => ok_indexAddr_arr ho ta61 sz59 (.tmp rfl) hp55 (.tmp rfl) hg56) ?_
    obtain ⟨p57, hp57, h⟩ := bindo h
    refine q_op (dst := none) rfl (fun _ ho => ok_store_s (v := (.int .u16 (ior .u16 p54 32))) ho sz59 (.tmp rfl) rfl (.tmp rfl) rfl hp57) ?_
    refine hr_region_end ?_
    try dsimp only [HAct.put, List.set_cons_zero, List.set_cons_succ]
    try dsimp only [HAct.put, List.set_cons_zero, List.set_cons_succ]
    exact J14_snd hrec0 h
  · refine q_cond_f e56 (.tmp rfl) (bfalse hc51) ?_
    refine q_skipc e58 ?_
    try dsimp only [HAct.put, List.set_cons_zero, List.set_cons_succ]
    exact J14_snd hrec0 h
def J12 (k : Nat) (rec0 : (Option HA) → (Option HA) → Int → HS → Option (((List HV)) × HS)) (y0 : (Option HA)) (y1 : (Option HA)) (y2 : Int) (y4 : Bool) (y5 : Int) (S : HS) : Option (((List HV)) × HS) :=
  (if y4 = true then
  J13 k rec0 y0 y1 y2 y5 (!decide (y2 = 44)) S else
  J13 k rec0 y0 y1 y2 y5 false S)
theorem J12_snd {k : Nat} {rec0 : (Option HA) → (Option HA) → Int → HS → Option (((List HV)) × HS)} (hrec0 : ∀ ⦃y0 : (Option HA)⦄ ⦃y1 : (Option HA)⦄ ⦃y5 : Int⦄ ⦃S : HS⦄ ⦃p : ((List HV)) × HS⦄ ⦃g2 g3 g4 g6 g7 g8 g9 g10 g11 g12 g13 g14 g15 g16 g17 g18 g19 g20 g21 g22 g23 g24 g25 g26 g27 g28 g29 g30 g31 g32 g33 g34 g35 g36 g37 g38 g39 g40 g41 g42 g43 g44 g45 g46 g47 g48 g49 g50 g51 g52 g53 g54 g55 g56 g57 g58 g59 g60 g61 g62 g63 g64 g65 g66 g67 g68 g69 g70 g71 g72 g73 g74 g75 g76 g77 g78 g79 g80 g81 g82 g83 g84 g85 g86 g87 g88 g89 g90 g91 g92 g93 : HV⦄, rec0 y0 y1 y5 S = some p → HRun Try.prog base W0 β0 32 none [.inLoop c9, .inBlock 0, .code c65] ⟨[(.ptr y0), (.ptr y1), g2, g3, g4, (.int .i64 y5), g6, g7, g8, g9, g10, g11, g12, g13, g14, g15, g16, g17, g18, g19, g20, g21, g22, g23, g24, g25, g26, g27, g28, g29, g30, g31, g32, g33, g34, g35, g36, g37, g38, g39, g40, g41, g42, g43, g44, g45, g46, g47, g48, g49, g50, g51, g52, g53, g54, g55, g56, g57, g58, g59, g60, g61, g62, g63, g64, g65, g66, g67, g68, g69, g70, g71, g72, g73, g74, g75, g76, g77, g78, g79, g80, g81, g82, g83, g84, g85, g86, g87, g88, g89, g90, g91, g92, g93], []⟩ S (fun v S1 => v = (.agg p.1) ∧ S1 = p.2)) {y0 : (Option HA)} {y1 : (Option HA)} {y2 : Int} {y4 : Bool} {y5 : Int} {S : HS} {p : ((List HV)) × HS} {g3 g6 g7 g8 g9 g10 g11 g12 g13 g14 g15 g16 g17 g18 g19 g20 g21 g22 g23 g24 g25 g26 g27 g28 g29 g30 g31 g32 g33 g34 g35 g36 g37 g38 g39 g40 g41 g42 g43 g44 g45 g46 g47 g48 g49 g50 g51 g52 g53 g54 g55 g56 g57 g58 g59 g60 g61 g62 g63 g64 g65 g66 g67 g68 g69 g70 g71 g72 g73 g74 g75 g76 g77 g78 g79 g80 g81 g82 g83 g84 g85 g86 g87 g88 g89 g90 g91 g92 g93 : HV} (h : J12 k rec0 y0 y1 y2 y4 y5 S = some p) : HRun Try.prog base W0 β0 32 none [.code c53, .inBlock 1, .code c64, .inLoop c9, .inBlock 0, .code c65] ⟨[(.ptr y0), (.ptr y1), (.int .i64 y2), g3, (.bool y4), (.int .i64 y5), g6, g7, g8, g9, g10, g11, g12, g13, g14, g15, g16, g17, g18, g19, g20, g21, g22, g23, g24, g25, g26, g27, g28, g29, g30, g31, g32, g33, g34, g35, g36, g37, g38, g39, g40, g41, g42, g43, g44, g45, g46, g47, g48, g49, g50, g51, g52, g53, g54, g55, g56, g57, g58, g59, g60, g61, g62, g63, g64, g65, g66, g67, g68, g69, g70, g71, g72, g73, g74, g75, g76, g77, g78, g79, g80, g81, g82, g83, g84, g85, g86, g87, g88, g89, g90, g91, g92, g93], []⟩ S (fun v S1 => v = (.agg p.1) ∧ S1 = p.2) := by
  unfold J12 at h
  refine q_seq e53 ?_
  refine q_seq e54 ?_
  refine q_region e55 rfl ?_
  refine q_op (dst := some 74) rfl (fun _ ho => ok_move ho (.tmp rfl)) ?_
  refine q_op (dst := some 75) rfl (fun _ ho => ok_move ho (.tmp rfl)) ?_
  rcases ifc h with ⟨hc50, h⟩ | ⟨hc50, h⟩
  · refine q_op_g (t := 75) (dst := some 76) rfl rfl rfl hc50 (fun _ ho => ok_move ho (.tmp rfl)) ?_
    refine q_op_g (t := 75) (dst := some 77) rfl rfl rfl hc50 (fun _ ho => ok_ibin ho (.tmp rfl) (.int _ _) rfl) ?_
    try dsimp only [HAct.put, List.set_cons_zero, List.set_cons_succ]
    refine q_op (dst := some 78) rfl (fun _ ho => ok_pick_tt ho (.tmp rfl) hc50 (.tmp rfl)) ?_
    refine hr_region_end ?_
    try dsimp only [HAct.put, List.set_cons_zero, List.set_cons_succ]
    try dsimp only [HAct.put, List.set_cons_zero, List.set_cons_succ]
    exact J13_snd hrec0 h
  · refine q_skip (dst := some 76) (t := 75) rfl rfl rfl (bfalse hc50) ?_
    refine q_skip (dst := some 77) (t := 75) rfl rfl rfl (bfalse hc50) ?_
    try dsimp only [HAct.put, List.set_cons_zero, List.set_cons_succ]
    refine q_op (dst := some 78) rfl (fun _ ho => ok_pick_ff ho (.tmp rfl) (bfalse hc50) (.bool _)) ?_
    refine hr_region_end ?_
    try dsimp only [HAct.put, List.set_cons_zero, List.set_cons_succ]
    try dsimp only [HAct.put, List.set_cons_zero, List.set_cons_succ]
    exact J13_snd hrec0 h
def J11 (k : Nat) (rec0 : (Option HA) → (Option HA) → Int → HS → Option (((List HV)) × HS)) (y0 : (Option HA)) (y1 : (Option HA)) (y2 : Int) (y4 : Bool) (y5 : Int) (y68 : Bool) (S : HS) : Option (((List HV)) × HS) :=
  (if y68 = true then
  (Option.bind (y1) fun p44 =>
  (if 0 ≤ (y2 : Int) ∧ (y2 : Int) < 256 then
  (Option.bind (HS.ldI S .u16 (HA.fld p44 (Int.toNat y2))) fun p46 =>
  (Option.bind (y1) fun p47 =>
  (if 0 ≤ (y2 : Int) ∧ (y2 : Int) < 256 then
  (Option.bind (HS.sets S (HA.fld p47 (Int.toNat y2)) [(.int .u16 (ior .u16 p46 16))]) fun p49 =>
  J12 k rec0 y0 y1 y2 y4 y5 p49) else none))) else none)) else
  J12 k rec0 y0 y1 y2 y4 y5 S)
theorem J11_snd {k : Nat} {rec0 : (Option HA) → (Option HA) → Int → HS → Option (((List HV)) × HS)} (hrec0 : ∀ ⦃y0 : (Option HA)⦄ ⦃y1 : (Option HA)⦄ ⦃y5 : Int⦄ ⦃S : HS⦄ ⦃p : ((List HV)) × HS⦄ ⦃g2 g3 g4 g6 g7 g8 g9 g10 g11 g12 g13 g14 g15 g16 g17 g18 g19 g20 g21 g22 g23 g24 g25 g26 g27 g28 g29 g30 g31 g32 g33 g34 g35 g36 g37 g38 g39 g40 g41 g42 g43 g44 g45 g46 g47 g48 g49 g50 g51 g52 g53 g54 g55 g56 g57 g58 g59 g60 g61 g62 g63 g64 g65 g66 g67 g68 g69 g70 g71 g72 g73 g74 g75 g76 g77 g78 g79 g80 g81 g82 g83 g84 g85 g86 g87 g88 g89 g90 g91 g92 g93 : HV⦄, rec0 y0 y1 y5 S = some p → HRun Try.prog base W0 β0 32 none [.inLoop c9, .inBlock 0, .code c65] ⟨[(.ptr y0), (.ptr y1), g2, g3, g4, (.int .i64 y5), g6, g7, g8, g9, g10, g11, g12, g13, g14, g15, g16, g17, g18, g19, g20, g21, g22, g23, g24, g25, g26, g27, g28, g29, g30, g31, g32, g33, g34, g35, g36, g37, g38, g39, g40, g41, g42, g43, g44, g45, g46, g47, g48, g49, g50, g51, g52, g53, g54, g55, g56, g57, g58, g59, g60, g61, g62, g63, g64, g65, g66, g67, g68, g69, g70, g71, g72, g73, g74, g75, g76, g77, g78, g79, g80, g81, g82, g83, g84, g85, g86, g87, g88, g89, g90, g91, g92, g93], []⟩ S (fun v S1 => v = (.agg p.1) ∧ S1 = p.2)) {y0 : (Option HA)} {y1 : (Option HA)} {y2 : Int} {y4 : Bool} {y5 : Int} {y68 : Bool} {S : HS} {p : ((List HV)) × HS} {g3 g6 g7 g8 g9 g10 g11 g12 g13 g14 g15 g16 g17 g18 g19 g20 g21 g22 g23 g24 g25 g26 g27 g28 g29 g30 g31 g32 g33 g34 g35 g36 g37 g38 g39 g40 g41 g42 g43 g44 g45 g46 g47 g48 g49 g50 g51 g52 g53 g54 g55 g56 g57 g58 g59 g60 g61 g62 g63 g64 g65 g66 g67 g69 g70 g71 g72 g73 g74 g75 g76 g77 g78 g79 g80 g81 g82 g83 g84 g85 g86 g87 g88 g89 g90 g91 g92 g93 : HV} (h : J11 k rec0 y0 y1 y2 y4 y5 y68 S = some p) : HRun Try.prog base W0 β0 32 none [.code c50, .code c53, .inBlock 1, .code c64, .inLoop c9, .inBlock 0, .code c65] ⟨[(.ptr y0), (.ptr y1), (.int .i64 y2), g3, (.bool y4), (.int .i64 y5), g6, g7, g8, g9, g10, g11, g12, g13, g14, g15, g16, g17, g18, g19, g20, g21, g22, g23, g24, g25, g26, g27, g28, g29, g30, g31, g32, g33, g34, g35, g36, g37, g38, g39, g40, g41, g42, g43, g44, g45, g46, g47, g48, g49, g50, g51, g52, g53, g54, g55, g56, g57, g58, g59, g60, g61, g62, g63, g64, g65, g66, g67, (.bool y68), g69, g70, g71, g72, g73, g74, g75, g76, g77, g78, g79, g80, g81, g82, g83, g84, g85, g86, g87, g88, g89, g90, g91, g92, g93], []⟩ S (fun v S1 => v = (.agg p.1) ∧ S1 = p.2) := by
  unfold J11 at h
  rcases ifc h with ⟨hc43, h⟩ | ⟨hc43, h⟩
  · refine q_cond_t e50 (.tmp rfl) hc43 ?_
    refine q_region e51 rfl ?_
    refine q_op (dst := some 69) rfl (fun _ ho => ok_move ho (.tmp rfl)) ?_
    obtain ⟨p44, hp44, h⟩ := bindo h
    obtain ⟨hg45, h⟩ := gd h
    refine q_op (dst := some 70) rfl (fun _ ho => ok_indexAddr_arr ho ta61 sz59 (.tmp rfl) hp44 (.tmp rfl) hg45) ?_
    obtain ⟨p46, hp46, h⟩ := bindo h
    refine q_op (dst := some 71) rfl (fun _ ho => ok_load_s ho sc59 (.tmp rfl) rfl (ldI_out hp46)) ?_
    refine q_op (dst := some 72) rfl (fun _ ho => ok_ibin ho (.tmp rfl) (.int _ _) rfl) ?_
    try dsimp only [HAct.put, List.set_cons_zero, List.set_cons_succ]
    obtain ⟨p47, hp47, h⟩ := bindo h
    obtain ⟨hg48, h⟩ := gd h
    refine q_op (dst := some 73) rfl (fun _ ho => ok_indexAddr_arr ho ta61 sz59 (.tmp rfl) hp47 (.tmp rfl) hg48) ?_
    obtain ⟨p49, hp49, h⟩ := bindo h
    refine q_op (dst := none) rfl (fun _ ho => ok_store_s (v := (.int .u16 (ior .u16 p46 16))) ho sz59 (.tmp rfl) rfl (.tmp rfl) rfl hp49) ?_
    refine hr_region_end ?_
    try dsimp only [HAct.put, List.set_cons_zero, List.set_cons_succ]
    try dsimp only [HAct.put, List.set_cons_zero, List.set_cons_succ]
    exact J12_snd hrec0 h
  · refine q_cond_f e50 (.tmp rfl) (bfalse hc43) ?_
    refine q_skipc e52 ?_
    try dsimp only [HAct.put, List.set_cons_zero, List.set_cons_succ]
    exact J12_snd hrec0 h
def J10 (k : Nat) (rec0 : (Option HA) → (Option HA) → Int → HS → Option (((List HV)) × HS)) (y0 : (Option HA)) (y1 : (Option HA)) (y2 : Int) (y4 : Bool) (y5 : Int) (y64 : Bool) (S : HS) : Option (((List HV)) × HS) :=
  (if y64 = true then
  J11 k rec0 y0 y1 y2 y4 y5 true S else
  (Option.bind (valid_has.f ([46, 45, 58] : List UInt8) y2) fun p66 =>
  J11 k rec0 y0 y1 y2 y4 y5 p66 S))
theorem J10_snd {k : Nat} {rec0 : (Option HA) → (Option HA) → Int → HS → Option (((List HV)) × HS)} (hrec0 : ∀ ⦃y0 : (Option HA)⦄ ⦃y1 : (Option HA)⦄ ⦃y5 : Int⦄ ⦃S : HS⦄ ⦃p : ((List HV)) × HS⦄ ⦃g2 g3 g4 g6 g7 g8 g9 g10 g11 g12 g13 g14 g15 g16 g17 g18 g19 g20 g21 g22 g23 g24 g25 g26 g27 g28 g29 g30 g31 g32 g33 g34 g35 g36 g37 g38 g39 g40 g41 g42 g43 g44 g45 g46 g47 g48 g49 g50 g51 g52 g53 g54 g55 g56 g57 g58 g59 g60 g61 g62 g63 g64 g65 g66 g67 g68 g69 g70 g71 g72 g73 g74 g75 g76 g77 g78 g79 g80 g81 g82 g83 g84 g85 g86 g87 g88 g89 g90 g91 g92 g93 : HV⦄, rec0 y0 y1 y5 S = some p → HRun Try.prog base W0 β0 32 none [.inLoop c9, .inBlock 0, .code c65] ⟨[(.ptr y0), (.ptr y1), g2, g3, g4, (.int .i64 y5), g6, g7, g8, g9, g10, g11, g12, g13, g14, g15, g16, g17, g18, g19, g20, g21, g22, g23, g24, g25, g26, g27, g28, g29, g30, g31, g32, g33, g34, g35, g36, g37, g38, g39, g40, g41, g42, g43, g44, g45, g46, g47, g48, g49, g50, g51, g52, g53, g54, g55, g56, g57, g58, g59, g60, g61, g62, g63, g64, g65, g66, g67, g68, g69, g70, g71, g72, g73, g74, g75, g76, g77, g78, g79, g80, g81, g82, g83, g84, g85, g86, g87, g88, g89, g90, g91, g92, g93], []⟩ S (fun v S1 => v = (.agg p.1) ∧ S1 = p.2)) {y0 : (Option HA)} {y1 : (Option HA)} {y2 : Int} {y4 : Bool} {y5 : Int} {y64 : Bool} {S : HS} {p : ((List HV)) × HS} {g3 g6 g7 g8 g9 g10 g11 g12 g13 g14 g15 g16 g17 g18 g19 g20 g21 g22 g23 g24 g25 g26 g27 g28 g29 g30 g31 g32 g33 g34 g35 g36 g37 g38 g39 g40 g41 g42 g43 g44 g45 g46 g47 g48 g49 g50 g51 g52 g53 g54 g55 g56 g57 g58 g59 g60 g61 g62 g63 g65 g66 g67 g68 g69 g70 g71 g72 g73 g74 g75 g76 g77 g78 g79 g80 g81 g82 g83 g84 g85 g86 g87 g88 g89 g90 g91 g92 g93 : HV} (h : J10 k rec0 y0 y1 y2 y4 y5 y64 S = some p) : HRun Try.prog base W0 β0 32 none [.inRegion r49 [5, 6, 7, 8], .code c50, .code c53, .inBlock 1, .code c64, .inLoop c9, .inBlock 0, .code c65] ⟨[(.ptr y0), (.ptr y1), (.int .i64 y2), g3, (.bool y4), (.int .i64 y5), g6, g7, g8, g9, g10, g11, g12, g13, g14, g15, g16, g17, g18, g19, g20, g21, g22, g23, g24, g25, g26, g27, g28, g29, g30, g31, g32, g33, g34, g35, g36, g37, g38, g39, g40, g41, g42, g43, g44, g45, g46, g47, g48, g49, g50, g51, g52, g53, g54, g55, g56, g57, g58, g59, g60, g61, g62, g63, (.bool y64), g65, g66, g67, g68, g69, g70, g71, g72, g73, g74, g75, g76, g77, g78, g79, g80, g81, g82, g83, g84, g85, g86, g87, g88, g89, g90, g91, g92, g93], []⟩ S (fun v S1 => v = (.agg p.1) ∧ S1 = p.2) := by
  unfold J10 at h
  refine q_op (dst := some 65) rfl (fun _ ho => ok_move ho (.tmp rfl)) ?_
  rcases ifc h with ⟨hc42, h⟩ | ⟨hc42, h⟩
  · refine q_skip (dst := some 66) (t := 65) rfl rfl rfl hc42 ?_
    refine q_skip (dst := some 67) (t := 65) rfl rfl rfl hc42 ?_
    try dsimp only [HAct.put, List.set_cons_zero, List.set_cons_succ]
    refine q_op (dst := some 68) rfl (fun _ ho => ok_pick_tt ho (.tmp rfl) hc42 (.bool _)) ?_
    refine hr_region_end ?_
    try dsimp only [HAct.put, List.set_cons_zero, List.set_cons_succ]
    try dsimp only [HAct.put, List.set_cons_zero, List.set_cons_succ]
    exact J11_snd hrec0 h
  · refine q_op_g (t := 65) (dst := some 66) rfl rfl rfl (bfalse hc42) (fun _ ho => ok_move ho (.tmp rfl)) ?_
    obtain ⟨p66, hp66, h⟩ := bindo h
    refine q_call_g (t := 65) (dst := some 67) rfl rfl rfl (bfalse hc42) (.func _) (.cons (.str _) (.cons (.tmp rfl) Evs.nil)) (HInv.static valid_has.at_ valid_has.body (valid_has.snd  hp66)) ?_
    rintro _ _ ⟨rfl, rfl⟩
    try dsimp only [HAct.put, List.set_cons_zero, List.set_cons_succ]
    refine q_op (dst := some 68) rfl (fun _ ho => ok_pick_ff ho (.tmp rfl) (bfalse hc42) (.tmp rfl)) ?_
    refine hr_region_end ?_
    try dsimp only [HAct.put, List.set_cons_zero, List.set_cons_succ]
    try dsimp only [HAct.put, List.set_cons_zero, List.set_cons_succ]
    exact J11_snd hrec0 h
def J9 (k : Nat) (rec0 : (Option HA) → (Option HA) → Int → HS → Option (((List HV)) × HS)) (y0 : (Option HA)) (y1 : (Option HA)) (y2 : Int) (y3 : Bool) (y4 : Bool) (y5 : Int) (S : HS) : Option (((List HV)) × HS) :=
  (Option.bind (valid_letter.f y2) fun p40 =>
  (if p40 = true then
  J10 k rec0 y0 y1 y2 y4 y5 true S else
  J10 k rec0 y0 y1 y2 y4 y5 y3 S))
theorem J9_snd {k : Nat} {rec0 : (Option HA) → (Option HA) → Int → HS → Option (((List HV)) × HS)} (hrec0 : ∀ ⦃y0 : (Option HA)⦄ ⦃y1 : (Option HA)⦄ ⦃y5 : Int⦄ ⦃S : HS⦄ ⦃p : ((List HV)) × HS⦄ ⦃g2 g3 g4 g6 g7 g8 g9 g10 g11 g12 g13 g14 g15 g16 g17 g18 g19 g20 g21 g22 g23 g24 g25 g26 g27 g28 g29 g30 g31 g32 g33 g34 g35 g36 g37 g38 g39 g40 g41 g42 g43 g44 g45 g46 g47 g48 g49 g50 g51 g52 g53 g54 g55 g56 g57 g58 g59 g60 g61 g62 g63 g64 g65 g66 g67 g68 g69 g70 g71 g72 g73 g74 g75 g76 g77 g78 g79 g80 g81 g82 g83 g84 g85 g86 g87 g88 g89 g90 g91 g92 g93 : HV⦄, rec0 y0 y1 y5 S = some p → HRun Try.prog base W0 β0 32 none [.inLoop c9, .inBlock 0, .code c65] ⟨[(.ptr y0), (.ptr y1), g2, g3, g4, (.int .i64 y5), g6, g7, g8, g9, g10, g11, g12, g13, g14, g15, g16, g17, g18, g19, g20, g21, g22, g23, g24, g25, g26, g27, g28, g29, g30, g31, g32, g33, g34, g35, g36, g37, g38, g39, g40, g41, g42, g43, g44, g45, g46, g47, g48, g49, g50, g51, g52, g53, g54, g55, g56, g57, g58, g59, g60, g61, g62, g63, g64, g65, g66, g67, g68, g69, g70, g71, g72, g73, g74, g75, g76, g77, g78, g79, g80, g81, g82, g83, g84, g85, g86, g87, g88, g89, g90, g91, g92, g93], []⟩ S (fun v S1 => v = (.agg p.1) ∧ S1 = p.2)) {y0 : (Option HA)} {y1 : (Option HA)} {y2 : Int} {y3 : Bool} {y4 : Bool} {y5 : Int} {S : HS} {p : ((List HV)) × HS} {g6 g7 g8 g9 g10 g11 g12 g13 g14 g15 g16 g17 g18 g19 g20 g21 g22 g23 g24 g25 g26 g27 g28 g29 g30 g31 g32 g33 g34 g35 g36 g37 g38 g39 g40 g41 g42 g43 g44 g45 g46 g47 g48 g49 g50 g51 g52 g53 g54 g55 g56 g57 g58 g59 g60 g61 g62 g63 g64 g65 g66 g67 g68 g69 g70 g71 g72 g73 g74 g75 g76 g77 g78 g79 g80 g81 g82 g83 g84 g85 g86 g87 g88 g89 g90 g91 g92 g93 : HV} (h : J9 k rec0 y0 y1 y2 y3 y4 y5 S = some p) : HRun Try.prog base W0 β0 32 none [.code c47, .inBlock 1, .code c64, .inLoop c9, .inBlock 0, .code c65] ⟨[(.ptr y0), (.ptr y1), (.int .i64 y2), (.bool y3), (.bool y4), (.int .i64 y5), g6, g7, g8, g9, g10, g11, g12, g13, g14, g15, g16, g17, g18, g19, g20, g21, g22, g23, g24, g25, g26, g27, g28, g29, g30, g31, g32, g33, g34, g35, g36, g37, g38, g39, g40, g41, g42, g43, g44, g45, g46, g47, g48, g49, g50, g51, g52, g53, g54, g55, g56, g57, g58, g59, g60, g61, g62, g63, g64, g65, g66, g67, g68, g69, g70, g71, g72, g73, g74, g75, g76, g77, g78, g79, g80, g81, g82, g83, g84, g85, g86, g87, g88, g89, g90, g91, g92, g93], []⟩ S (fun v S1 => v = (.agg p.1) ∧ S1 = p.2) := by
  unfold J9 at h
  refine q_seq e47 ?_
  refine q_seq e48 ?_
  refine q_region e49 rfl ?_
  refine q_op (dst := some 60) rfl (fun _ ho => ok_move ho (.tmp rfl)) ?_
  obtain ⟨p40, hp40, h⟩ := bindo h
  refine q_call (dst := some 61) rfl (.func _) (.cons (.tmp rfl) Evs.nil) (HInv.static valid_letter.at_ valid_letter.body (valid_letter.snd  hp40)) ?_
  rintro _ _ ⟨rfl, rfl⟩
  refine q_op (dst := some 62) rfl (fun _ ho => ok_move ho (.tmp rfl)) ?_
  rcases ifc h with ⟨hc41, h⟩ | ⟨hc41, h⟩
  · refine q_skip (dst := some 63) (t := 62) rfl rfl rfl hc41 ?_
    try dsimp only [HAct.put, List.set_cons_zero, List.set_cons_succ]
    refine q_op (dst := some 64) rfl (fun _ ho => ok_pick_tt ho (.tmp rfl) hc41 (.bool _)) ?_
    try dsimp only [HAct.put, List.set_cons_zero, List.set_cons_succ]
    exact J10_snd hrec0 h
  · refine q_op_g (t := 62) (dst := some 63) rfl rfl rfl (bfalse hc41) (fun _ ho => ok_move ho (.tmp rfl)) ?_
    try dsimp only [HAct.put, List.set_cons_zero, List.set_cons_succ]
    refine q_op (dst := some 64) rfl (fun _ ho => ok_pick_ff ho (.tmp rfl) (bfalse hc41) (.tmp rfl)) ?_
    try dsimp only [HAct.put, List.set_cons_zero, List.set_cons_succ]
    exact J10_snd hrec0 h
def J8 (k : Nat) (rec0 : (Option HA) → (Option HA) → Int → HS → Option (((List HV)) × HS)) (y0 : (Option HA)) (y1 : (Option HA)) (y2 : Int) (y3 : Bool) (y4 : Bool) (y5 : Int) (y54 : Bool) (S : HS) : Option (((List HV)) × HS) :=
  (if y54 = true then
  (Option.bind (y1) fun p34 =>
  (if 0 ≤ (y2 : Int) ∧ (y2 : Int) < 256 then
  (Option.bind (HS.ldI S .u16 (HA.fld p34 (Int.toNat y2))) fun p36 =>
  (Option.bind (y1) fun p37 =>
  (if 0 ≤ (y2 : Int) ∧ (y2 : Int) < 256 then
  (Option.bind (HS.sets S (HA.fld p37 (Int.toNat y2)) [(.int .u16 (ior .u16 p36 8))]) fun p39 =>
  J9 k rec0 y0 y1 y2 y3 y4 y5 p39) else none))) else none)) else
  J9 k rec0 y0 y1 y2 y3 y4 y5 S)
theorem J8_snd {k : Nat} {rec0 : (Option HA) → (Option HA) → Int → HS → Option (((List HV)) × HS)} (hrec0 : ∀ ⦃y0 : (Option HA)⦄ ⦃y1 : (Option HA)⦄ ⦃y5 : Int⦄ ⦃S : HS⦄ ⦃p : ((List HV)) × HS⦄ ⦃g2 g3 g4 g6 g7 g8 g9 g10 g11 g12 g13 g14 g15 g16 g17 g18 g19 g20 g21 g22 g23 g24 g25 g26 g27 g28 g29 g30 g31 g32 g33 g34 g35 g36 g37 g38 g39 g40 g41 g42 g43 g44 g45 g46 g47 g48 g49 g50 g51 g52 g53 g54 g55 g56 g57 g58 g59 g60 g61 g62 g63 g64 g65 g66 g67 g68 g69 g70 g71 g72 g73 g74 g75 g76 g77 g78 g79 g80 g81 g82 g83 g84 g85 g86 g87 g88 g89 g90 g91 g92 g93 : HV⦄, rec0 y0 y1 y5 S = some p → HRun Try.prog base W0 β0 32 none [.inLoop c9, .inBlock 0, .code c65] ⟨[(.ptr y0), (.ptr y1), g2, g3, g4, (.int .i64 y5), g6, g7, g8, g9, g10, g11, g12, g13, g14, g15, g16, g17, g18, g19, g20, g21, g22, g23, g24, g25, g26, g27, g28, g29, g30, g31, g32, g33, g34, g35, g36, g37, g38, g39, g40, g41, g42, g43, g44, g45, g46, g47, g48, g49, g50, g51, g52, g53, g54, g55, g56, g57, g58, g59, g60, g61, g62, g63, g64, g65, g66, g67, g68, g69, g70, g71, g72, g73, g74, g75, g76, g77, g78, g79, g80, g81, g82, g83, g84, g85, g86, g87, g88, g89, g90, g91, g92, g93], []⟩ S (fun v S1 => v = (.agg p.1) ∧ S1 = p.2)) {y0 : (Option HA)} {y1 : (Option HA)} {y2 : Int} {y3 : Bool} {y4 : Bool} {y5 : Int} {y54 : Bool} {S : HS} {p : ((List HV)) × HS} {g6 g7 g8 g9 g10 g11 g12 g13 g14 g15 g16 g17 g18 g19 g20 g21 g22 g23 g24 g25 g26 g27 g28 g29 g30 g31 g32 g33 g34 g35 g36 g37 g38 g39 g40 g41 g42 g43 g44 g45 g46 g47 g48 g49 g50 g51 g52 g53 g55 g56 g57 g58 g59 g60 g61 g62 g63 g64 g65 g66 g67 g68 g69 g70 g71 g72 g73 g74 g75 g76 g77 g78 g79 g80 g81 g82 g83 g84 g85 g86 g87 g88 g89 g90 g91 g92 g93 : HV} (h : J8 k rec0 y0 y1 y2 y3 y4 y5 y54 S = some p) : HRun Try.prog base W0 β0 32 none [.code c44, .code c47, .inBlock 1, .code c64, .inLoop c9, .inBlock 0, .code c65] ⟨[(.ptr y0), (.ptr y1), (.int .i64 y2), (.bool y3), (.bool y4), (.int .i64 y5), g6, g7, g8, g9, g10, g11, g12, g13, g14, g15, g16, g17, g18, g19, g20, g21, g22, g23, g24, g25, g26, g27, g28, g29, g30, g31, g32, g33, g34, g35, g36, g37, g38, g39, g40, g41, g42, g43, g44, g45, g46, g47, g48, g49, g50, g51, g52, g53, (.bool y54), g55, g56, g57, g58, g59, g60, g61, g62, g63, g64, g65, g66, g67, g68, g69, g70, g71, g72, g73, g74, g75, g76, g77, g78, g79, g80, g81, g82, g83, g84, g85, g86, g87, g88, g89, g90, g91, g92, g93], []⟩ S (fun v S1 => v = (.agg p.1) ∧ S1 = p.2) := by
  unfold J8 at h
  rcases ifc h with ⟨hc33, h⟩ | ⟨hc33, h⟩
  · refine q_cond_t e44 (.tmp rfl) hc33 ?_
    refine q_region e45 rfl ?_
    refine q_op (dst := some 55) rfl (fun _ ho => ok_move ho (.tmp rfl)) ?_
    obtain ⟨p34, hp34, h⟩ := bindo h
    obtain ⟨hg35, h⟩ := gd h
    refine q_op (dst := some 56) rfl (fun _ ho => ok_indexAddr_arr ho ta61 sz59 (.tmp rfl) hp34 (.tmp rfl) hg35) ?_
    obtain ⟨p36, hp36, h⟩ := bindo h
    refine q_op (dst := some 57) rfl (fun _ ho => ok_load_s ho sc59 (.tmp rfl) rfl (ldI_out hp36)) ?_
    refine q_op (dst := some 58) rfl (fun _ ho => ok_ibin ho (.tmp rfl) (.int _ _) rfl) ?_
    try dsimp only [HAct.put, List.set_cons_zero, List.set_cons_succ]
    obtain ⟨p37, hp37, h⟩ := bindo h
    obtain ⟨hg38, h⟩ := gd h
    refine q_op (dst := some 59) rfl (fun _ ho => ok_indexAddr_arr ho ta61 sz59 (.tmp rfl) hp37 (.tmp rfl) hg38) ?_
    obtain ⟨p39, hp39, h⟩ := bindo h
    refine q_op (dst := none) rfl (fun _ ho => ok_store_s (v := (.int .u16 (ior .u16 p36 8))) ho sz59 (.tmp rfl) rfl (.tmp rfl) rfl hp39) ?_
    refine hr_region_end ?_
    try dsimp only [HAct.put, List.set_cons_zero, List.set_cons_succ]
    try dsimp only [HAct.put, List.set_cons_zero, List.set_cons_succ]
    exact J9_snd hrec0 h
  · refine q_cond_f e44 (.tmp rfl) (bfalse hc33) ?_
    refine q_skipc e46 ?_
    try dsimp only [HAct.put, List.set_cons_zero, List.set_cons_succ]
    exact J9_snd hrec0 h
def J7 (k : Nat) (rec0 : (Option HA) → (Option HA) → Int → HS → Option (((List HV)) × HS)) (y0 : (Option HA)) (y1 : (Option HA)) (y2 : Int) (y3 : Bool) (y4 : Bool) (y5 : Int) (S : HS) : Option (((List HV)) × HS) :=
  (if y4 = true then
  (Option.bind (valid_has.f ([33, 64, 42, 63, 58] : List UInt8) y2) fun p32 =>
  J8 k rec0 y0 y1 y2 y3 y4 y5 (!p32) S) else
  J8 k rec0 y0 y1 y2 y3 y4 y5 false S)
theorem J7_snd {k : Nat} {rec0 : (Option HA) → (Option HA) → Int → HS → Option (((List HV)) × HS)} (hrec0 : ∀ ⦃y0 : (Option HA)⦄ ⦃y1 : (Option HA)⦄ ⦃y5 : Int⦄ ⦃S : HS⦄ ⦃p : ((List HV)) × HS⦄ ⦃g2 g3 g4 g6 g7 g8 g9 g10 g11 g12 g13 g14 g15 g16 g17 g18 g19 g20 g21 g22 g23 g24 g25 g26 g27 g28 g29 g30 g31 g32 g33 g34 g35 g36 g37 g38 g39 g40 g41 g42 g43 g44 g45 g46 g47 g48 g49 g50 g51 g52 g53 g54 g55 g56 g57 g58 g59 g60 g61 g62 g63 g64 g65 g66 g67 g68 g69 g70 g71 g72 g73 g74 g75 g76 g77 g78 g79 g80 g81 g82 g83 g84 g85 g86 g87 g88 g89 g90 g91 g92 g93 : HV⦄, rec0 y0 y1 y5 S = some p → HRun Try.prog base W0 β0 32 none [.inLoop c9, .inBlock 0, .code c65] ⟨[(.ptr y0), (.ptr y1), g2, g3, g4, (.int .i64 y5), g6, g7, g8, g9, g10, g11, g12, g13, g14, g15, g16, g17, g18, g19, g20, g21, g22, g23, g24, g25, g26, g27, g28, g29, g30, g31, g32, g33, g34, g35, g36, g37, g38, g39, g40, g41, g42, g43, g44, g45, g46, g47, g48, g49, g50, g51, g52, g53, g54, g55, g56, g57, g58, g59, g60, g61, g62, g63, g64, g65, g66, g67, g68, g69, g70, g71, g72, g73, g74, g75, g76, g77, g78, g79, g80, g81, g82, g83, g84, g85, g86, g87, g88, g89, g90, g91, g92, g93], []⟩ S (fun v S1 => v = (.agg p.1) ∧ S1 = p.2)) {y0 : (Option HA)} {y1 : (Option HA)} {y2 : Int} {y3 : Bool} {y4 : Bool} {y5 : Int} {S : HS} {p : ((List HV)) × HS} {g6 g7 g8 g9 g10 g11 g12 g13 g14 g15 g16 g17 g18 g19 g20 g21 g22 g23 g24 g25 g26 g27 g28 g29 g30 g31 g32 g33 g34 g35 g36 g37 g38 g39 g40 g41 g42 g43 g44 g45 g46 g47 g48 g49 g50 g51 g52 g53 g54 g55 g56 g57 g58 g59 g60 g61 g62 g63 g64 g65 g66 g67 g68 g69 g70 g71 g72 g73 g74 g75 g76 g77 g78 g79 g80 g81 g82 g83 g84 g85 g86 g87 g88 g89 g90 g91 g92 g93 : HV} (h : J7 k rec0 y0 y1 y2 y3 y4 y5 S = some p) : HRun Try.prog base W0 β0 32 none [.code c41, .inBlock 1, .code c64, .inLoop c9, .inBlock 0, .code c65] ⟨[(.ptr y0), (.ptr y1), (.int .i64 y2), (.bool y3), (.bool y4), (.int .i64 y5), g6, g7, g8, g9, g10, g11, g12, g13, g14, g15, g16, g17, g18, g19, g20, g21, g22, g23, g24, g25, g26, g27, g28, g29, g30, g31, g32, g33, g34, g35, g36, g37, g38, g39, g40, g41, g42, g43, g44, g45, g46, g47, g48, g49, g50, g51, g52, g53, g54, g55, g56, g57, g58, g59, g60, g61, g62, g63, g64, g65, g66, g67, g68, g69, g70, g71, g72, g73, g74, g75, g76, g77, g78, g79, g80, g81, g82, g83, g84, g85, g86, g87, g88, g89, g90, g91, g92, g93], []⟩ S (fun v S1 => v = (.agg p.1) ∧ S1 = p.2) := by
  unfold J7 at h
  refine q_seq e41 ?_
  refine q_seq e42 ?_
  refine q_region e43 rfl ?_
  refine q_op (dst := some 49) rfl (fun _ ho => ok_move ho (.tmp rfl)) ?_
  refine q_op (dst := some 50) rfl (fun _ ho => ok_move ho (.tmp rfl)) ?_
  rcases ifc h with ⟨hc31, h⟩ | ⟨hc31, h⟩
  · refine q_op_g (t := 50) (dst := some 51) rfl rfl rfl hc31 (fun _ ho => ok_move ho (.tmp rfl)) ?_
    obtain ⟨p32, hp32, h⟩ := bindo h
    refine q_call_g (t := 50) (dst := some 52) rfl rfl rfl hc31 (.func _) (.cons (.str _) (.cons (.tmp rfl) Evs.nil)) (HInv.static valid_has.at_ valid_has.body (valid_has.snd  hp32)) ?_
    rintro _ _ ⟨rfl, rfl⟩
    try dsimp only [HAct.put, List.set_cons_zero, List.set_cons_succ]
    refine q_op_g (t := 50) (dst := some 53) rfl rfl rfl hc31 (fun _ ho => ok_not ho (.tmp rfl)) ?_
    refine q_op (dst := some 54) rfl (fun _ ho => ok_pick_tt ho (.tmp rfl) hc31 (.tmp rfl)) ?_
    refine hr_region_end ?_
    try dsimp only [HAct.put, List.set_cons_zero, List.set_cons_succ]
    try dsimp only [HAct.put, List.set_cons_zero, List.set_cons_succ]
    exact J8_snd hrec0 h
  · refine q_skip (dst := some 51) (t := 50) rfl rfl rfl (bfalse hc31) ?_
    refine q_skip (dst := some 52) (t := 50) rfl rfl rfl (bfalse hc31) ?_
    try dsimp only [HAct.put, List.set_cons_zero, List.set_cons_succ]
    refine q_skip (dst := some 53) (t := 50) rfl rfl rfl (bfalse hc31) ?_
    refine q_op (dst := some 54) rfl (fun _ ho => ok_pick_ff ho (.tmp rfl) (bfalse hc31) (.bool _)) ?_
    refine hr_region_end ?_
    try dsimp only [HAct.put, List.set_cons_zero, List.set_cons_succ]
    try dsimp only [HAct.put, List.set_cons_zero, List.set_cons_succ]
    exact J8_snd hrec0 h
def J6 (k : Nat) (rec0 : (Option HA) → (Option HA) → Int → HS → Option (((List HV)) × HS)) (y0 : (Option HA)) (y1 : (Option HA)) (y2 : Int) (y3 : Bool) (y4 : Bool) (y5 : Int) (S : HS) : Option (((List HV)) × HS) :=
  (Option.bind (valid_has.f ([0, 7, 10, 13, 32, 44, 58] : List UInt8) y2) fun p23 =>
  (if (!p23) = true then
  (Option.bind (y1) fun p25 =>
  (if 0 ≤ (y2 : Int) ∧ (y2 : Int) < 256 then
  (Option.bind (HS.ldI S .u16 (HA.fld p25 (Int.toNat y2))) fun p27 =>
  (Option.bind (y1) fun p28 =>
  (if 0 ≤ (y2 : Int) ∧ (y2 : Int) < 256 then
  (Option.bind (HS.sets S (HA.fld p28 (Int.toNat y2)) [(.int .u16 (ior .u16 p27 4))]) fun p30 =>
  J7 k rec0 y0 y1 y2 y3 y4 y5 p30) else none))) else none)) else
  J7 k rec0 y0 y1 y2 y3 y4 y5 S))
theorem J6_snd {k : Nat} {rec0 : (Option HA) → (Option HA) → Int → HS → Option (((List HV)) × HS)} (hrec0 : ∀ ⦃y0 : (Option HA)⦄ ⦃y1 : (Option HA)⦄ ⦃y5 : Int⦄ ⦃S : HS⦄ ⦃p : ((List HV)) × HS⦄ ⦃g2 g3 g4 g6 g7 g8 g9 g10 g11 g12 g13 g14 g15 g16 g17 g18 g19 g20 g21 g22 g23 g24 g25 g26 g27 g28 g29 g30 g31 g32 g33 g34 g35 g36 g37 g38 g39 g40 g41 g42 g43 g44 g45 g46 g47 g48 g49 g50 g51 g52 g53 g54 g55 g56 g57 g58 g59 g60 g61 g62 g63 g64 g65 g66 g67 g68 g69 g70 g71 g72 g73 g74 g75 g76 g77 g78 g79 g80 g81 g82 g83 g84 g85 g86 g87 g88 g89 g90 g91 g92 g93 : HV⦄, rec0 y0 y1 y5 S = some p → HRun Try.prog base W0 β0 32 none [.inLoop c9, .inBlock 0, .code c65] ⟨[(.ptr y0), (.ptr y1), g2, g3, g4, (.int .i64 y5), g6, g7, g8, g9, g10, g11, g12, g13, g14, g15, g16, g17, g18, g19, g20, g21, g22, g23, g24, g25, g26, g27, g28, g29, g30, g31, g32, g33, g34, g35, g36, g37, g38, g39, g40, g41, g42, g43, g44, g45, g46, g47, g48, g49, g50, g51, g52, g53, g54, g55, g56, g57, g58, g59, g60, g61, g62, g63, g64, g65, g66, g67, g68, g69, g70, g71, g72, g73, g74, g75, g76, g77, g78, g79, g80, g81, g82, g83, g84, g85, g86, g87, g88, g89, g90, g91, g92, g93], []⟩ S (fun v S1 => v = (.agg p.1) ∧ S1 = p.2)) {y0 : (Option HA)} {y1 : (Option HA)} {y2 : Int} {y3 : Bool} {y4 : Bool} {y5 : Int} {S : HS} {p : ((List HV)) × HS} {g6 g7 g8 g9 g10 g11 g12 g13 g14 g15 g16 g17 g18 g19 g20 g21 g22 g23 g24 g25 g26 g27 g28 g29 g30 g31 g32 g33 g34 g35 g36 g37 g38 g39 g40 g41 g42 g43 g44 g45 g46 g47 g48 g49 g50 g51 g52 g53 g54 g55 g56 g57 g58 g59 g60 g61 g62 g63 g64 g65 g66 g67 g68 g69 g70 g71 g72 g73 g74 g75 g76 g77 g78 g79 g80 g81 g82 g83 g84 g85 g86 g87 g88 g89 g90 g91 g92 g93 : HV} (h : J6 k rec0 y0 y1 y2 y3 y4 y5 S = some p) : HRun Try.prog base W0 β0 32 none [.code c35, .inBlock 1, .code c64, .inLoop c9, .inBlock 0, .code c65] ⟨[(.ptr y0), (.ptr y1), (.int .i64 y2), (.bool y3), (.bool y4), (.int .i64 y5), g6, g7, g8, g9, g10, g11, g12, g13, g14, g15, g16, g17, g18, g19, g20, g21, g22, g23, g24, g25, g26, g27, g28, g29, g30, g31, g32, g33, g34, g35, g36, g37, g38, g39, g40, g41, g42, g43, g44, g45, g46, g47, g48, g49, g50, g51, g52, g53, g54, g55, g56, g57, g58, g59, g60, g61, g62, g63, g64, g65, g66, g67, g68, g69, g70, g71, g72, g73, g74, g75, g76, g77, g78, g79, g80, g81, g82, g83, g84, g85, g86, g87, g88, g89, g90, g91, g92, g93], []⟩ S (fun v S1 => v = (.agg p.1) ∧ S1 = p.2) := by
  unfold J6 at h
  refine q_seq e35 ?_
  refine q_seq e36 ?_
  refine q_region e37 rfl ?_
  refine q_op (dst := some 41) rfl (fun _ ho => ok_move ho (.tmp rfl)) ?_
  obtain ⟨p23, hp23, h⟩ := bindo h
  refine q_call (dst := some 42) rfl (.func _) (.cons (.str _) (.cons (.tmp rfl) Evs.nil)) (HInv.static valid_has.at_ valid_has.body (valid_has.snd  hp23)) ?_
  rintro _ _ ⟨rfl, rfl⟩
  refine q_op (dst := some 43) rfl (fun _ ho => ok_not ho (.tmp rfl)) ?_
  refine hr_region_end ?_
  try dsimp only [HAct.put, List.set_cons_zero, List.set_cons_succ]
  rcases ifc h with ⟨hc24, h⟩ | ⟨hc24, h⟩
  · refine q_cond_t e38 (.tmp rfl) hc24 ?_
    refine q_region e39 rfl ?_
    refine q_op (dst := some 44) rfl (fun _ ho => ok_move ho (.tmp rfl)) ?_
    obtain ⟨p25, hp25, h⟩ := bindo h
    obtain ⟨hg26, h⟩ := gd h
    refine q_op (dst := some 45) rfl (fun _ ho => ok_indexAddr_arr ho ta61 sz59 (.tmp rfl) hp25 (.tmp rfl) hg26) ?_
    obtain ⟨p27, hp27, h⟩ := bindo h
    refine q_op (dst := some 46) rfl (fun _ ho => ok_load_s ho sc59 (.tmp rfl) rfl (ldI_out hp27)) ?_
    refine q_op (dst := some 47) rfl (fun _ ho => ok_ibin ho (.tmp rfl) (.int _ _) rfl) ?_
    try dsimp only [HAct.put, List.set_cons_zero, List.set_cons_succ]
    obtain ⟨p28, hp28, h⟩ := bindo h
    obtain ⟨hg29, h⟩ := gd h
    refine q_op (dst := some 48) rfl (fun _ ho => ok_indexAddr_arr ho ta61 sz59 (.tmp rfl) hp28 (.tmp rfl) hg29) ?_
    obtain ⟨p30, hp30, h⟩ := bindo h
    refine q_op (dst := none) rfl (fun _ ho => ok_store_s (v := (.int .u16 (ior .u16 p27 4))) ho sz59 (.tmp rfl) rfl (.tmp rfl) rfl hp30) ?_
    refine hr_region_end ?_
    try dsimp only [HAct.put, List.set_cons_zero, List.set_cons_succ]
    try dsimp only [HAct.put, List.set_cons_zero, List.set_cons_succ]
    exact J7_snd hrec0 h
  · refine q_cond_f e38 (.tmp rfl) (bfalse hc24) ?_
    refine q_skipc e40 ?_
    try dsimp only [HAct.put, List.set_cons_zero, List.set_cons_succ]
    exact J7_snd hrec0 h
def J5 (k : Nat) (rec0 : (Option HA) → (Option HA) → Int → HS → Option (((List HV)) × HS)) (y0 : (Option HA)) (y1 : (Option HA)) (y2 : Int) (y3 : Bool) (y4 : Bool) (y5 : Int) (y35 : Bool) (S : HS) : Option (((List HV)) × HS) :=
  (if y35 = true then
  (Option.bind (y1) fun p17 =>
  (if 0 ≤ (y2 : Int) ∧ (y2 : Int) < 256 then
  (Option.bind (HS.ldI S .u16 (HA.fld p17 (Int.toNat y2))) fun p19 =>
  (Option.bind (y1) fun p20 =>
  (if 0 ≤ (y2 : Int) ∧ (y2 : Int) < 256 then
  (Option.bind (HS.sets S (HA.fld p20 (Int.toNat y2)) [(.int .u16 (ior .u16 p19 2))]) fun p22 =>
  J6 k rec0 y0 y1 y2 y3 y4 y5 p22) else none))) else none)) else
  J6 k rec0 y0 y1 y2 y3 y4 y5 S)
theorem J5_snd {k : Nat} {rec0 : (Option HA) → (Option HA) → Int → HS → Option (((List HV)) × HS)} (hrec0 : ∀ ⦃y0 : (Option HA)⦄ ⦃y1 : (Option HA)⦄ ⦃y5 : Int⦄ ⦃S : HS⦄ ⦃p : ((List HV)) × HS⦄ ⦃g2 g3 g4 g6 g7 g8 g9 g10 g11 g12 g13 g14 g15 g16 g17 g18 g19 g20 g21 g22 g23 g24 g25 g26 g27 g28 g29 g30 g31 g32 g33 g34 g35 g36 g37 g38 g39 g40 g41 g42 g43 g44 g45 g46 g47 g48 g49 g50 g51 g52 g53 g54 g55 g56 g57 g58 g59 g60 g61 g62 g63 g64 g65 g66 g67 g68 g69 g70 g71 g72 g73 g74 g75 g76 g77 g78 g79 g80 g81 g82 g83 g84 g85 g86 g87 g88 g89 g90 g91 g92 g93 : HV⦄, rec0 y0 y1 y5 S = some p → HRun Try.prog base W0 β0 32 none [.inLoop c9, .inBlock 0, .code c65] ⟨[(.ptr y0), (.ptr y1), g2, g3, g4, (.int .i64 y5), g6, g7, g8, g9, g10, g11, g12, g13, g14, g15, g16, g17, g18, g19, g20, g21, g22, g23, g24, g25, g26, g27, g28, g29, g30, g31, g32, g33, g34, g35, g36, g37, g38, g39, g40, g41, g42, g43, g44, g45, g46, g47, g48, g49, g50, g51, g52, g53, g54, g55, g56, g57, g58, g59, g60, g61, g62, g63, g64, g65, g66, g67, g68, g69, g70, g71, g72, g73, g74, g75, g76, g77, g78, g79, g80, g81, g82, g83, g84, g85, g86, g87, g88, g89, g90, g91, g92, g93], []⟩ S (fun v S1 => v = (.agg p.1) ∧ S1 = p.2)) {y0 : (Option HA)} {y1 : (Option HA)} {y2 : Int} {y3 : Bool} {y4 : Bool} {y5 : Int} {y35 : Bool} {S : HS} {p : ((List HV)) × HS} {g6 g7 g8 g9 g10 g11 g12 g13 g14 g15 g16 g17 g18 g19 g20 g21 g22 g23 g24 g25 g26 g27 g28 g29 g30 g31 g32 g33 g34 g36 g37 g38 g39 g40 g41 g42 g43 g44 g45 g46 g47 g48 g49 g50 g51 g52 g53 g54 g55 g56 g57 g58 g59 g60 g61 g62 g63 g64 g65 g66 g67 g68 g69 g70 g71 g72 g73 g74 g75 g76 g77 g78 g79 g80 g81 g82 g83 g84 g85 g86 g87 g88 g89 g90 g91 g92 g93 : HV} (h : J5 k rec0 y0 y1 y2 y3 y4 y5 y35 S = some p) : HRun Try.prog base W0 β0 32 none [.code c32, .code c35, .inBlock 1, .code c64, .inLoop c9, .inBlock 0, .code c65] ⟨[(.ptr y0), (.ptr y1), (.int .i64 y2), (.bool y3), (.bool y4), (.int .i64 y5), g6, g7, g8, g9, g10, g11, g12, g13, g14, g15, g16, g17, g18, g19, g20, g21, g22, g23, g24, g25, g26, g27, g28, g29, g30, g31, g32, g33, g34, (.bool y35), g36, g37, g38, g39, g40, g41, g42, g43, g44, g45, g46, g47, g48, g49, g50, g51, g52, g53, g54, g55, g56, g57, g58, g59, g60, g61, g62, g63, g64, g65, g66, g67, g68, g69, g70, g71, g72, g73, g74, g75, g76, g77, g78, g79, g80, g81, g82, g83, g84, g85, g86, g87, g88, g89, g90, g91, g92, g93], []⟩ S (fun v S1 => v = (.agg p.1) ∧ S1 = p.2) := by
  unfold J5 at h
  rcases ifc h with ⟨hc16, h⟩ | ⟨hc16, h⟩
  · refine q_cond_t e32 (.tmp rfl) hc16 ?_
    refine q_region e33 rfl ?_
    refine q_op (dst := some 36) rfl (fun _ ho => ok_move ho (.tmp rfl)) ?_
    obtain ⟨p17, hp17, h⟩ := bindo h
    obtain ⟨hg18, h⟩ := gd h
    refine q_op (dst := some 37) rfl (fun _ ho => ok_indexAddr_arr ho ta61 sz59 (.tmp rfl) hp17 (.tmp rfl) hg18) ?_
    obtain ⟨p19, hp19, h⟩ := bindo h
    refine q_op (dst := some 38) rfl (fun _ ho => ok_load_s ho sc59 (.tmp rfl) rfl (ldI_out hp19)) ?_
    refine q_op (dst := some 39) rfl (fun _ ho => ok_ibin ho (.tmp rfl) (.int _ _) rfl) ?_
    try dsimp only [HAct.put, List.set_cons_zero, List.set_cons_succ]
    obtain ⟨p20, hp20, h⟩ := bindo h
    obtain ⟨hg21, h⟩ := gd h
    refine q_op (dst := some 40) rfl (fun _ ho => ok_indexAddr_arr ho ta61 sz59 (.tmp rfl) hp20 (.tmp rfl) hg21) ?_
    obtain ⟨p22, hp22, h⟩ := bindo h
    refine q_op (dst := none) rfl (fun _ ho => ok_store_s (v := (.int .u16 (ior .u16 p19 2))) ho sz59 (.tmp rfl) rfl (.tmp rfl) rfl hp22) ?_
    refine hr_region_end ?_
    try dsimp only [HAct.put, List.set_cons_zero, List.set_cons_succ]
    try dsimp only [HAct.put, List.set_cons_zero, List.set_cons_succ]
    exact J6_snd hrec0 h
  · refine q_cond_f e32 (.tmp rfl) (bfalse hc16) ?_
    refine q_skipc e34 ?_
    try dsimp only [HAct.put, List.set_cons_zero, List.set_cons_succ]
    exact J6_snd hrec0 h
def J4 (k : Nat) (rec0 : (Option HA) → (Option HA) → Int → HS → Option (((List HV)) × HS)) (y0 : (Option HA)) (y1 : (Option HA)) (y2 : Int) (y3 : Bool) (y4 : Bool) (y5 : Int) (S : HS) : Option (((List HV)) × HS) :=
  (if y3 = true then
  J5 k rec0 y0 y1 y2 y3 y4 y5 true S else
  J5 k rec0 y0 y1 y2 y3 y4 y5 (decide (y2 = 45)) S)
theorem J4_snd {k : Nat} {rec0 : (Option HA) → (Option HA) → Int → HS → Option (((List HV)) × HS)} (hrec0 : ∀ ⦃y0 : (Option HA)⦄ ⦃y1 : (Option HA)⦄ ⦃y5 : Int⦄ ⦃S : HS⦄ ⦃p : ((List HV)) × HS⦄ ⦃g2 g3 g4 g6 g7 g8 g9 g10 g11 g12 g13 g14 g15 g16 g17 g18 g19 g20 g21 g22 g23 g24 g25 g26 g27 g28 g29 g30 g31 g32 g33 g34 g35 g36 g37 g38 g39 g40 g41 g42 g43 g44 g45 g46 g47 g48 g49 g50 g51 g52 g53 g54 g55 g56 g57 g58 g59 g60 g61 g62 g63 g64 g65 g66 g67 g68 g69 g70 g71 g72 g73 g74 g75 g76 g77 g78 g79 g80 g81 g82 g83 g84 g85 g86 g87 g88 g89 g90 g91 g92 g93 : HV⦄, rec0 y0 y1 y5 S = some p → HRun Try.prog base W0 β0 32 none [.inLoop c9, .inBlock 0, .code c65] ⟨[(.ptr y0), (.ptr y1), g2, g3, g4, (.int .i64 y5), g6, g7, g8, g9, g10, g11, g12, g13, g14, g15, g16, g17, g18, g19, g20, g21, g22, g23, g24, g25, g26, g27, g28, g29, g30, g31, g32, g33, g34, g35, g36, g37, g38, g39, g40, g41, g42, g43, g44, g45, g46, g47, g48, g49, g50, g51, g52, g53, g54, g55, g56, g57, g58, g59, g60, g61, g62, g63, g64, g65, g66, g67, g68, g69, g70, g71, g72, g73, g74, g75, g76, g77, g78, g79, g80, g81, g82, g83, g84, g85, g86, g87, g88, g89, g90, g91, g92, g93], []⟩ S (fun v S1 => v = (.agg p.1) ∧ S1 = p.2)) {y0 : (Option HA)} {y1 : (Option HA)} {y2 : Int} {y3 : Bool} {y4 : Bool} {y5 : Int} {S : HS} {p : ((List HV)) × HS} {g6 g7 g8 g9 g10 g11 g12 g13 g14 g15 g16 g17 g18 g19 g20 g21 g22 g23 g24 g25 g26 g27 g28 g29 g30 g31 g32 g33 g34 g35 g36 g37 g38 g39 g40 g41 g42 g43 g44 g45 g46 g47 g48 g49 g50 g51 g52 g53 g54 g55 g56 g57 g58 g59 g60 g61 g62 g63 g64 g65 g66 g67 g68 g69 g70 g71 g72 g73 g74 g75 g76 g77 g78 g79 g80 g81 g82 g83 g84 g85 g86 g87 g88 g89 g90 g91 g92 g93 : HV} (h : J4 k rec0 y0 y1 y2 y3 y4 y5 S = some p) : HRun Try.prog base W0 β0 32 none [.code c29, .inBlock 1, .code c64, .inLoop c9, .inBlock 0, .code c65] ⟨[(.ptr y0), (.ptr y1), (.int .i64 y2), (.bool y3), (.bool y4), (.int .i64 y5), g6, g7, g8, g9, g10, g11, g12, g13, g14, g15, g16, g17, g18, g19, g20, g21, g22, g23, g24, g25, g26, g27, g28, g29, g30, g31, g32, g33, g34, g35, g36, g37, g38, g39, g40, g41, g42, g43, g44, g45, g46, g47, g48, g49, g50, g51, g52, g53, g54, g55, g56, g57, g58, g59, g60, g61, g62, g63, g64, g65, g66, g67, g68, g69, g70, g71, g72, g73, g74, g75, g76, g77, g78, g79, g80, g81, g82, g83, g84, g85, g86, g87, g88, g89, g90, g91, g92, g93], []⟩ S (fun v S1 => v = (.agg p.1) ∧ S1 = p.2) := by
  unfold J4 at h
  refine q_seq e29 ?_
  refine q_seq e30 ?_
  refine q_region e31 rfl ?_
  refine q_op (dst := some 31) rfl (fun _ ho => ok_move ho (.tmp rfl)) ?_
  refine q_op (dst := some 32) rfl (fun _ ho => ok_move ho (.tmp rfl)) ?_
  rcases ifc h with ⟨hc15, h⟩ | ⟨hc15, h⟩
  · refine q_skip (dst := some 33) (t := 32) rfl rfl rfl hc15 ?_
    refine q_skip (dst := some 34) (t := 32) rfl rfl rfl hc15 ?_
    try dsimp only [HAct.put, List.set_cons_zero, List.set_cons_succ]
    refine q_op (dst := some 35) rfl (fun _ ho => ok_pick_tt ho (.tmp rfl) hc15 (.bool _)) ?_
    refine hr_region_end ?_
    try dsimp only [HAct.put, List.set_cons_zero, List.set_cons_succ]
    try dsimp only [HAct.put, List.set_cons_zero, List.set_cons_succ]
    exact J5_snd hrec0 h
  · refine q_op_g (t := 32) (dst := some 33) rfl rfl rfl (bfalse hc15) (fun _ ho => ok_move ho (.tmp rfl)) ?_
    refine q_op_g (t := 32) (dst := some 34) rfl rfl rfl (bfalse hc15) (fun _ ho => ok_ibin ho (.tmp rfl) (.int _ _) rfl) ?_
    try dsimp only [HAct.put, List.set_cons_zero, List.set_cons_succ]
    refine q_op (dst := some 35) rfl (fun _ ho => ok_pick_ff ho (.tmp rfl) (bfalse hc15) (.tmp rfl)) ?_
    refine hr_region_end ?_
    try dsimp only [HAct.put, List.set_cons_zero, List.set_cons_succ]
    try dsimp only [HAct.put, List.set_cons_zero, List.set_cons_succ]
    exact J5_snd hrec0 h
def J3 (k : Nat) (rec0 : (Option HA) → (Option HA) → Int → HS → Option (((List HV)) × HS)) (y0 : (Option HA)) (y1 : (Option HA)) (y2 : Int) (y3 : Bool) (y4 : Bool) (y5 : Int) (y25 : Bool) (S : HS) : Option (((List HV)) × HS) :=
  (if y25 = true then
  (Option.bind (y1) fun p9 =>
  (if 0 ≤ (y2 : Int) ∧ (y2 : Int) < 256 then
  (Option.bind (HS.ldI S .u16 (HA.fld p9 (Int.toNat y2))) fun p11 =>
  (Option.bind (y1) fun p12 =>
  (if 0 ≤ (y2 : Int) ∧ (y2 : Int) < 256 then
  (Option.bind (HS.sets S (HA.fld p12 (Int.toNat y2)) [(.int .u16 (ior .u16 p11 3))]) fun p14 =>
  J4 k rec0 y0 y1 y2 y3 y4 y5 p14) else none))) else none)) else
  J4 k rec0 y0 y1 y2 y3 y4 y5 S)
theorem J3_snd {k : Nat} {rec0 : (Option HA) → (Option HA) → Int → HS → Option (((List HV)) × HS)} (hrec0 : ∀ ⦃y0 : (Option HA)⦄ ⦃y1 : (Option HA)⦄ ⦃y5 : Int⦄ ⦃S : HS⦄ ⦃p : ((List HV)) × HS⦄ ⦃g2 g3 g4 g6 g7 g8 g9 g10 g11 g12 g13 g14 g15 g16 g17 g18 g19 g20 g21 g22 g23 g24 g25 g26 g27 g28 g29 g30 g31 g32 g33 g34 g35 g36 g37 g38 g39 g40 g41 g42 g43 g44 g45 g46 g47 g48 g49 g50 g51 g52 g53 g54 g55 g56 g57 g58 g59 g60 g61 g62 g63 g64 g65 g66 g67 g68 g69 g70 g71 g72 g73 g74 g75 g76 g77 g78 g79 g80 g81 g82 g83 g84 g85 g86 g87 g88 g89 g90 g91 g92 g93 : HV⦄, rec0 y0 y1 y5 S = some p → HRun Try.prog base W0 β0 32 none [.inLoop c9, .inBlock 0, .code c65] ⟨[(.ptr y0), (.ptr y1), g2, g3, g4, (.int .i64 y5), g6, g7, g8, g9, g10, g11, g12, g13, g14, g15, g16, g17, g18, g19, g20, g21, g22, g23, g24, g25, g26, g27, g28, g29, g30, g31, g32, g33, g34, g35, g36, g37, g38, g39, g40, g41, g42, g43, g44, g45, g46, g47, g48, g49, g50, g51, g52, g53, g54, g55, g56, g57, g58, g59, g60, g61, g62, g63, g64, g65, g66, g67, g68, g69, g70, g71, g72, g73, g74, g75, g76, g77, g78, g79, g80, g81, g82, g83, g84, g85, g86, g87, g88, g89, g90, g91, g92, g93], []⟩ S (fun v S1 => v = (.agg p.1) ∧ S1 = p.2)) {y0 : (Option HA)} {y1 : (Option HA)} {y2 : Int} {y3 : Bool} {y4 : Bool} {y5 : Int} {y25 : Bool} {S : HS} {p : ((List HV)) × HS} {g6 g7 g8 g9 g10 g11 g12 g13 g14 g15 g16 g17 g18 g19 g20 g21 g22 g23 g24 g26 g27 g28 g29 g30 g31 g32 g33 g34 g35 g36 g37 g38 g39 g40 g41 g42 g43 g44 g45 g46 g47 g48 g49 g50 g51 g52 g53 g54 g55 g56 g57 g58 g59 g60 g61 g62 g63 g64 g65 g66 g67 g68 g69 g70 g71 g72 g73 g74 g75 g76 g77 g78 g79 g80 g81 g82 g83 g84 g85 g86 g87 g88 g89 g90 g91 g92 g93 : HV} (h : J3 k rec0 y0 y1 y2 y3 y4 y5 y25 S = some p) : HRun Try.prog base W0 β0 32 none [.code c26, .code c29, .inBlock 1, .code c64, .inLoop c9, .inBlock 0, .code c65] ⟨[(.ptr y0), (.ptr y1), (.int .i64 y2), (.bool y3), (.bool y4), (.int .i64 y5), g6, g7, g8, g9, g10, g11, g12, g13, g14, g15, g16, g17, g18, g19, g20, g21, g22, g23, g24, (.bool y25), g26, g27, g28, g29, g30, g31, g32, g33, g34, g35, g36, g37, g38, g39, g40, g41, g42, g43, g44, g45, g46, g47, g48, g49, g50, g51, g52, g53, g54, g55, g56, g57, g58, g59, g60, g61, g62, g63, g64, g65, g66, g67, g68, g69, g70, g71, g72, g73, g74, g75, g76, g77, g78, g79, g80, g81, g82, g83, g84, g85, g86, g87, g88, g89, g90, g91, g92, g93], []⟩ S (fun v S1 => v = (.agg p.1) ∧ S1 = p.2) := by
  unfold J3 at h
  rcases ifc h with ⟨hc8, h⟩ | ⟨hc8, h⟩
  · refine q_cond_t e26 (.tmp rfl) hc8 ?_
    refine q_region e27 rfl ?_
    refine q_op (dst := some 26) rfl (fun _ ho => ok_move ho (.tmp rfl)) ?_
    obtain ⟨p9, hp9, h⟩ := bindo h
    obtain ⟨hg10, h⟩ := gd h
    refine q_op (dst := some 27) rfl (fun _ ho => ok_indexAddr_arr ho ta61 sz59 (.tmp rfl) hp9 (.tmp rfl) hg10) ?_
    obtain ⟨p11, hp11, h⟩ := bindo h
    refine q_op (dst := some 28) rfl (fun _ ho => ok_load_s ho sc59 (.tmp rfl) rfl (ldI_out hp11)) ?_
    refine q_op (dst := some 29) rfl (fun _ ho => ok_ibin ho (.tmp rfl) (.int _ _) rfl) ?_
    try dsimp only [HAct.put, List.set_cons_zero, List.set_cons_succ]
    obtain ⟨p12, hp12, h⟩ := bindo h
    obtain ⟨hg13, h⟩ := gd h
    refine q_op (dst := some 30) rfl (fun _ ho => ok_indexAddr_arr ho ta61 sz59 (.tmp rfl) hp12 (.tmp rfl) hg13) ?_
    obtain ⟨p14, hp14, h⟩ := bindo h
    refine q_op (dst := none) rfl (fun _ ho => ok_store_s (v := (.int .u16 (ior .u16 p11 3))) ho sz59 (.tmp rfl) rfl (.tmp rfl) rfl hp14) ?_
    refine hr_region_end ?_
    try dsimp only [HAct.put, List.set_cons_zero, List.set_cons_succ]
    try dsimp only [HAct.put, List.set_cons_zero, List.set_cons_succ]
    exact J4_snd hrec0 h
  · refine q_cond_f e26 (.tmp rfl) (bfalse hc8) ?_
    refine q_skipc e28 ?_
    try dsimp only [HAct.put, List.set_cons_zero, List.set_cons_succ]
    exact J4_snd hrec0 h
def J2 (k : Nat) (rec0 : (Option HA) → (Option HA) → Int → HS → Option (((List HV)) × HS)) (y0 : (Option HA)) (y1 : (Option HA)) (y2 : Int) (y3 : Bool) (y5 : Int) (y19 : Bool) (S : HS) : Option (((List HV)) × HS) :=
  (Option.bind (valid_letter.f y2) fun p6 =>
  (if p6 = true then
  J3 k rec0 y0 y1 y2 y3 y19 y5 true S else
  (Option.bind (valid_has.f ([91, 93, 92, 95, 94, 123, 124, 125, 96] : List UInt8) y2) fun p67 =>
  J3 k rec0 y0 y1 y2 y3 y19 y5 p67 S)))
theorem J2_snd {k : Nat} {rec0 : (Option HA) → (Option HA) → Int → HS → Option (((List HV)) × HS)} (hrec0 : ∀ ⦃y0 : (Option HA)⦄ ⦃y1 : (Option HA)⦄ ⦃y5 : Int⦄ ⦃S : HS⦄ ⦃p : ((List HV)) × HS⦄ ⦃g2 g3 g4 g6 g7 g8 g9 g10 g11 g12 g13 g14 g15 g16 g17 g18 g19 g20 g21 g22 g23 g24 g25 g26 g27 g28 g29 g30 g31 g32 g33 g34 g35 g36 g37 g38 g39 g40 g41 g42 g43 g44 g45 g46 g47 g48 g49 g50 g51 g52 g53 g54 g55 g56 g57 g58 g59 g60 g61 g62 g63 g64 g65 g66 g67 g68 g69 g70 g71 g72 g73 g74 g75 g76 g77 g78 g79 g80 g81 g82 g83 g84 g85 g86 g87 g88 g89 g90 g91 g92 g93 : HV⦄, rec0 y0 y1 y5 S = some p → HRun Try.prog base W0 β0 32 none [.inLoop c9, .inBlock 0, .code c65] ⟨[(.ptr y0), (.ptr y1), g2, g3, g4, (.int .i64 y5), g6, g7, g8, g9, g10, g11, g12, g13, g14, g15, g16, g17, g18, g19, g20, g21, g22, g23, g24, g25, g26, g27, g28, g29, g30, g31, g32, g33, g34, g35, g36, g37, g38, g39, g40, g41, g42, g43, g44, g45, g46, g47, g48, g49, g50, g51, g52, g53, g54, g55, g56, g57, g58, g59, g60, g61, g62, g63, g64, g65, g66, g67, g68, g69, g70, g71, g72, g73, g74, g75, g76, g77, g78, g79, g80, g81, g82, g83, g84, g85, g86, g87, g88, g89, g90, g91, g92, g93], []⟩ S (fun v S1 => v = (.agg p.1) ∧ S1 = p.2)) {y0 : (Option HA)} {y1 : (Option HA)} {y2 : Int} {y3 : Bool} {y5 : Int} {y19 : Bool} {S : HS} {p : ((List HV)) × HS} {g4 g6 g7 g8 g9 g10 g11 g12 g13 g14 g15 g16 g17 g18 g20 g21 g22 g23 g24 g25 g26 g27 g28 g29 g30 g31 g32 g33 g34 g35 g36 g37 g38 g39 g40 g41 g42 g43 g44 g45 g46 g47 g48 g49 g50 g51 g52 g53 g54 g55 g56 g57 g58 g59 g60 g61 g62 g63 g64 g65 g66 g67 g68 g69 g70 g71 g72 g73 g74 g75 g76 g77 g78 g79 g80 g81 g82 g83 g84 g85 g86 g87 g88 g89 g90 g91 g92 g93 : HV} (h : J2 k rec0 y0 y1 y2 y3 y5 y19 S = some p) : HRun Try.prog base W0 β0 32 none [.inRegion r22 [6], .code c23, .inBlock 1, .code c64, .inLoop c9, .inBlock 0, .code c65] ⟨[(.ptr y0), (.ptr y1), (.int .i64 y2), (.bool y3), g4, (.int .i64 y5), g6, g7, g8, g9, g10, g11, g12, g13, g14, g15, g16, g17, g18, (.bool y19), g20, g21, g22, g23, g24, g25, g26, g27, g28, g29, g30, g31, g32, g33, g34, g35, g36, g37, g38, g39, g40, g41, g42, g43, g44, g45, g46, g47, g48, g49, g50, g51, g52, g53, g54, g55, g56, g57, g58, g59, g60, g61, g62, g63, g64, g65, g66, g67, g68, g69, g70, g71, g72, g73, g74, g75, g76, g77, g78, g79, g80, g81, g82, g83, g84, g85, g86, g87, g88, g89, g90, g91, g92, g93], []⟩ S (fun v S1 => v = (.agg p.1) ∧ S1 = p.2) := by
  unfold J2 at h
  refine q_op (dst := some 4) rfl (fun _ ho => ok_assign ho (.tmp rfl)) ?_
  refine hr_region_end ?_
  try dsimp only [HAct.put, List.set_cons_zero, List.set_cons_succ]
  refine q_seq e23 ?_
  refine q_seq e24 ?_
  refine q_region e25 rfl ?_
  refine q_op (dst := some 20) rfl (fun _ ho => ok_move ho (.tmp rfl)) ?_
  obtain ⟨p6, hp6, h⟩ := bindo h
  refine q_call (dst := some 21) rfl (.func _) (.cons (.tmp rfl) Evs.nil) (HInv.static valid_letter.at_ valid_letter.body (valid_letter.snd  hp6)) ?_
  rintro _ _ ⟨rfl, rfl⟩
  refine q_op (dst := some 22) rfl (fun _ ho => ok_move ho (.tmp rfl)) ?_
  rcases ifc h with ⟨hc7, h⟩ | ⟨hc7, h⟩
  · refine q_skip (dst := some 23) (t := 22) rfl rfl rfl hc7 ?_
    try dsimp only [HAct.put, List.set_cons_zero, List.set_cons_succ]
    refine q_skip (dst := some 24) (t := 22) rfl rfl rfl hc7 ?_
    refine q_op (dst := some 25) rfl (fun _ ho => ok_pick_tt ho (.tmp rfl) hc7 (.bool _)) ?_
    refine hr_region_end ?_
    try dsimp only [HAct.put, List.set_cons_zero, List.set_cons_succ]
    try dsimp only [HAct.put, List.set_cons_zero, List.set_cons_succ]
    exact J3_snd hrec0 h
  · refine q_op_g (t := 22) (dst := some 23) rfl rfl rfl (bfalse hc7) (fun _ ho => ok_move ho (.tmp rfl)) ?_
    try dsimp only [HAct.put, List.set_cons_zero, List.set_cons_succ]
    obtain ⟨p67, hp67, h⟩ := bindo h
    refine q_call_g (t := 22) (dst := some 24) rfl rfl rfl (bfalse hc7) (.func _) (.cons (.str _) (.cons (.tmp rfl) Evs.nil)) (HInv.static valid_has.at_ valid_has.body (valid_has.snd  hp67)) ?_
    rintro _ _ ⟨rfl, rfl⟩
    refine q_op (dst := some 25) rfl (fun _ ho => ok_pick_ff ho (.tmp rfl) (bfalse hc7) (.tmp rfl)) ?_
    refine hr_region_end ?_
    try dsimp only [HAct.put, List.set_cons_zero, List.set_cons_succ]
    try dsimp only [HAct.put, List.set_cons_zero, List.set_cons_succ]
    exact J3_snd hrec0 h
def J1 (k : Nat) (rec0 : (Option HA) → (Option HA) → Int → HS → Option (((List HV)) × HS)) (y0 : (Option HA)) (y1 : (Option HA)) (y2 : Int) (y5 : Int) (y13 : Bool) (S : HS) : Option (((List HV)) × HS) :=
  (if y2 ≥ 33 then
  J2 k rec0 y0 y1 y2 y13 y5 (decide (y2 ≤ 126)) S else
  J2 k rec0 y0 y1 y2 y13 y5 false S)
theorem J1_snd {k : Nat} {rec0 : (Option HA) → (Option HA) → Int → HS → Option (((List HV)) × HS)} (hrec0 : ∀ ⦃y0 : (Option HA)⦄ ⦃y1 : (Option HA)⦄ ⦃y5 : Int⦄ ⦃S : HS⦄ ⦃p : ((List HV)) × HS⦄ ⦃g2 g3 g4 g6 g7 g8 g9 g10 g11 g12 g13 g14 g15 g16 g17 g18 g19 g20 g21 g22 g23 g24 g25 g26 g27 g28 g29 g30 g31 g32 g33 g34 g35 g36 g37 g38 g39 g40 g41 g42 g43 g44 g45 g46 g47 g48 g49 g50 g51 g52 g53 g54 g55 g56 g57 g58 g59 g60 g61 g62 g63 g64 g65 g66 g67 g68 g69 g70 g71 g72 g73 g74 g75 g76 g77 g78 g79 g80 g81 g82 g83 g84 g85 g86 g87 g88 g89 g90 g91 g92 g93 : HV⦄, rec0 y0 y1 y5 S = some p → HRun Try.prog base W0 β0 32 none [.inLoop c9, .inBlock 0, .code c65] ⟨[(.ptr y0), (.ptr y1), g2, g3, g4, (.int .i64 y5), g6, g7, g8, g9, g10, g11, g12, g13, g14, g15, g16, g17, g18, g19, g20, g21, g22, g23, g24, g25, g26, g27, g28, g29, g30, g31, g32, g33, g34, g35, g36, g37, g38, g39, g40, g41, g42, g43, g44, g45, g46, g47, g48, g49, g50, g51, g52, g53, g54, g55, g56, g57, g58, g59, g60, g61, g62, g63, g64, g65, g66, g67, g68, g69, g70, g71, g72, g73, g74, g75, g76, g77, g78, g79, g80, g81, g82, g83, g84, g85, g86, g87, g88, g89, g90, g91, g92, g93], []⟩ S (fun v S1 => v = (.agg p.1) ∧ S1 = p.2)) {y0 : (Option HA)} {y1 : (Option HA)} {y2 : Int} {y5 : Int} {y13 : Bool} {S : HS} {p : ((List HV)) × HS} {g3 g4 g6 g7 g8 g9 g10 g11 g12 g14 g15 g16 g17 g18 g19 g20 g21 g22 g23 g24 g25 g26 g27 g28 g29 g30 g31 g32 g33 g34 g35 g36 g37 g38 g39 g40 g41 g42 g43 g44 g45 g46 g47 g48 g49 g50 g51 g52 g53 g54 g55 g56 g57 g58 g59 g60 g61 g62 g63 g64 g65 g66 g67 g68 g69 g70 g71 g72 g73 g74 g75 g76 g77 g78 g79 g80 g81 g82 g83 g84 g85 g86 g87 g88 g89 g90 g91 g92 g93 : HV} (h : J1 k rec0 y0 y1 y2 y5 y13 S = some p) : HRun Try.prog base W0 β0 32 none [.inRegion r20 [6], .code c21, .inBlock 1, .code c64, .inLoop c9, .inBlock 0, .code c65] ⟨[(.ptr y0), (.ptr y1), (.int .i64 y2), g3, g4, (.int .i64 y5), g6, g7, g8, g9, g10, g11, g12, (.bool y13), g14, g15, g16, g17, g18, g19, g20, g21, g22, g23, g24, g25, g26, g27, g28, g29, g30, g31, g32, g33, g34, g35, g36, g37, g38, g39, g40, g41, g42, g43, g44, g45, g46, g47, g48, g49, g50, g51, g52, g53, g54, g55, g56, g57, g58, g59, g60, g61, g62, g63, g64, g65, g66, g67, g68, g69, g70, g71, g72, g73, g74, g75, g76, g77, g78, g79, g80, g81, g82, g83, g84, g85, g86, g87, g88, g89, g90, g91, g92, g93], []⟩ S (fun v S1 => v = (.agg p.1) ∧ S1 = p.2) := by
  unfold J1 at h
  refine q_op (dst := some 3) rfl (fun _ ho => ok_assign ho (.tmp rfl)) ?_
  refine hr_region_end ?_
  try dsimp only [HAct.put, List.set_cons_zero, List.set_cons_succ]
  refine q_seq e21 ?_
  refine q_region e22 rfl ?_
  refine q_op (dst := some 14) rfl (fun _ ho => ok_move ho (.tmp rfl)) ?_
  refine q_op (dst := some 15) rfl (fun _ ho => ok_ibin ho (.tmp rfl) (.int _ _) rfl) ?_
  refine q_op (dst := some 16) rfl (fun _ ho => ok_move ho (.tmp rfl)) ?_
  rcases ifc h with ⟨hc5, h⟩ | ⟨hc5, h⟩
  · refine q_op_g (t := 16) (dst := some 17) rfl rfl rfl (decide_eq_true hc5) (fun _ ho => ok_move ho (.tmp rfl)) ?_
    try dsimp only [HAct.put, List.set_cons_zero, List.set_cons_succ]
    refine q_op_g (t := 16) (dst := some 18) rfl rfl rfl (decide_eq_true hc5) (fun _ ho => ok_ibin ho (.tmp rfl) (.int _ _) rfl) ?_
    refine q_op (dst := some 19) rfl (fun _ ho => ok_pick_tt ho (.tmp rfl) (decide_eq_true hc5) (.tmp rfl)) ?_
    try dsimp only [HAct.put, List.set_cons_zero, List.set_cons_succ]
    exact J2_snd hrec0 h
  · refine q_skip (dst := some 17) (t := 16) rfl rfl rfl (decide_eq_false hc5) ?_
    try dsimp only [HAct.put, List.set_cons_zero, List.set_cons_succ]
    refine q_skip (dst := some 18) (t := 16) rfl rfl rfl (decide_eq_false hc5) ?_
    refine q_op (dst := some 19) rfl (fun _ ho => ok_pick_ff ho (.tmp rfl) (decide_eq_false hc5) (.bool _)) ?_
    try dsimp only [HAct.put, List.set_cons_zero, List.set_cons_succ]
    exact J2_snd hrec0 h
def L0 (k : Nat) : Nat → (Option HA) → (Option HA) → Int → HS → Option (((List HV)) × HS)
  | 0, _, _, _, _ => none
  | n + 1, y0, y1, y5, S =>
    (if y5 < 256 then
    (if y5 ≥ 48 then
    J1 k (L0 k n) y0 y1 y5 y5 (decide (y5 ≤ 57)) S else
    J1 k (L0 k n) y0 y1 y5 y5 false S) else
    (Option.bind (y1) fun p68 =>
    (Option.bind (HS.gets S p68 256) fun p69 =>
    (Option.bind (y0) fun p70 =>
    (if List.length p69 = 256 ∧ List.all p69 HV.flat = true then
    (Option.bind (HS.sets S p70 p69) fun p72 =>
    (Option.bind (y0) fun p73 =>
    (Option.bind (HS.gets p72 p73 256) fun p74 =>
    some (p74, p72)))) else none)))))
theorem L0_snd {k : Nat}  : ∀ {n : Nat} ⦃y0 : (Option HA)⦄ ⦃y1 : (Option HA)⦄ ⦃y5 : Int⦄ ⦃S : HS⦄ ⦃p : ((List HV)) × HS⦄ ⦃g2 g3 g4 g6 g7 g8 g9 g10 g11 g12 g13 g14 g15 g16 g17 g18 g19 g20 g21 g22 g23 g24 g25 g26 g27 g28 g29 g30 g31 g32 g33 g34 g35 g36 g37 g38 g39 g40 g41 g42 g43 g44 g45 g46 g47 g48 g49 g50 g51 g52 g53 g54 g55 g56 g57 g58 g59 g60 g61 g62 g63 g64 g65 g66 g67 g68 g69 g70 g71 g72 g73 g74 g75 g76 g77 g78 g79 g80 g81 g82 g83 g84 g85 g86 g87 g88 g89 g90 g91 g92 g93 : HV⦄, L0 k n y0 y1 y5 S = some p → HRun Try.prog base W0 β0 32 none [.inLoop c9, .inBlock 0, .code c65] ⟨[(.ptr y0), (.ptr y1), g2, g3, g4, (.int .i64 y5), g6, g7, g8, g9, g10, g11, g12, g13, g14, g15, g16, g17, g18, g19, g20, g21, g22, g23, g24, g25, g26, g27, g28, g29, g30, g31, g32, g33, g34, g35, g36, g37, g38, g39, g40, g41, g42, g43, g44, g45, g46, g47, g48, g49, g50, g51, g52, g53, g54, g55, g56, g57, g58, g59, g60, g61, g62, g63, g64, g65, g66, g67, g68, g69, g70, g71, g72, g73, g74, g75, g76, g77, g78, g79, g80, g81, g82, g83, g84, g85, g86, g87, g88, g89, g90, g91, g92, g93], []⟩ S (fun v S1 => v = (.agg p.1) ∧ S1 = p.2) := by
  intro n
  induction n with
  | zero => intro _ _ _ _ _ _ _ _ _ _ _ _ _ _ _ _ _ _ _ _ _ _ _ _ _ _ _ _ _ _ _ _ _ _ _ _ _ _ _ _ _ _ _ _ _ _ _ _ _ _ _ _ _ _ _ _ _ _ _ _ _ _ _ _ _ _ _ _ _ _ _ _ _ _ _ _ _ _ _ _ _ _ _ _ _ _ _ _ _ _ _ _ _ _ _ _ h; cases h
  | succ n ih =>
    intro y0 y1 y5 S p g2 g3 g4 g6 g7 g8 g9 g10 g11 g12 g13 g14 g15 g16 g17 g18 g19 g20 g21 g22 g23 g24 g25 g26 g27 g28 g29 g30 g31 g32 g33 g34 g35 g36 g37 g38 g39 g40 g41 g42 g43 g44 g45 g46 g47 g48 g49 g50 g51 g52 g53 g54 g55 g56 g57 g58 g59 g60 g61 g62 g63 g64 g65 g66 g67 g68 g69 g70 g71 g72 g73 g74 g75 g76 g77 g78 g79 g80 g81 g82 g83 g84 g85 g86 g87 g88 g89 g90 g91 g92 g93 h
    simp only [L0] at h
    refine hr_inLoop ?_
    refine q_seq e9 ?_
    refine q_region e10 rfl ?_
    refine q_op (dst := some 6) rfl (fun _ ho => ok_ibin ho (.tmp rfl) (.int _ _) rfl) ?_
    refine hr_region_end ?_
    try dsimp only [HAct.put, List.set_cons_zero, List.set_cons_succ]
    refine q_seq e11 ?_
    rcases ifc h with ⟨hc3, h⟩ | ⟨hc3, h⟩
    · refine q_cond_t e12 (.tmp rfl) (decide_eq_true hc3) ?_
      refine q_skipc e13 ?_
      refine q_seq e15 ?_
      refine q_block e16 ?_
      refine q_seq e17 ?_
      refine q_region e18 rfl ?_
      refine q_op (dst := some 7) rfl (fun _ ho => ok_move ho (.tmp rfl)) ?_
      refine q_op (dst := some 2) rfl (fun _ ho => ok_assign ho (.tmp rfl)) ?_
      refine hr_region_end ?_
      try dsimp only [HAct.put, List.set_cons_zero, List.set_cons_succ]
      refine q_seq e19 ?_
      refine q_region e20 rfl ?_
      refine q_op (dst := some 8) rfl (fun _ ho => ok_move ho (.tmp rfl)) ?_
      refine q_op (dst := some 9) rfl (fun _ ho => ok_ibin ho (.tmp rfl) (.int _ _) rfl) ?_
      refine q_op (dst := some 10) rfl (fun _ ho => ok_move ho (.tmp rfl)) ?_
      rcases ifc h with ⟨hc4, h⟩ | ⟨hc4, h⟩
      · refine q_op_g (t := 10) (dst := some 11) rfl rfl rfl (decide_eq_true hc4) (fun _ ho => ok_move ho (.tmp rfl)) ?_
        try dsimp only [HAct.put, List.set_cons_zero, List.set_cons_succ]
        refine q_op_g (t := 10) (dst := some 12) rfl rfl rfl (decide_eq_true hc4) (fun _ ho => ok_ibin ho (.tmp rfl) (.int _ _) rfl) ?_
        refine q_op (dst := some 13) rfl (fun _ ho => ok_pick_tt ho (.tmp rfl) (decide_eq_true hc4) (.tmp rfl)) ?_
        try dsimp only [HAct.put, List.set_cons_zero, List.set_cons_succ]
        exact J1_snd ih h
      · refine q_skip (dst := some 11) (t := 10) rfl rfl rfl (decide_eq_false hc4) ?_
        try dsimp only [HAct.put, List.set_cons_zero, List.set_cons_succ]
        refine q_skip (dst := some 12) (t := 10) rfl rfl rfl (decide_eq_false hc4) ?_
        refine q_op (dst := some 13) rfl (fun _ ho => ok_pick_ff ho (.tmp rfl) (decide_eq_false hc4) (.bool _)) ?_
        try dsimp only [HAct.put, List.set_cons_zero, List.set_cons_succ]
        exact J1_snd ih h
    · refine q_cond_f e12 (.tmp rfl) (decide_eq_false hc3) ?_
      refine q_exit e14 rfl ?_
      refine q_seq e65 ?_
      refine q_region e66 rfl ?_
      obtain ⟨p68, hp68, h⟩ := bindo h
      obtain ⟨p69, hp69, h⟩ := bindo h
      refine q_op (dst := some 93) rfl (fun _ ho => ok_load_arr ho ia61 (.tmp rfl) hp68 hp69) ?_
      obtain ⟨p70, hp70, h⟩ := bindo h
      obtain ⟨hg71, h⟩ := gd h
      obtain ⟨p72, hp72, h⟩ := bindo h
      refine q_op (dst := none) rfl (fun _ ho => ok_store_arr ho sz61 (.tmp rfl) hp70 (.tmp rfl) hg71 hp72) ?_
      refine hr_region_end ?_
      try dsimp only [HAct.put, List.set_cons_zero, List.set_cons_succ]
      obtain ⟨p73, hp73, h⟩ := bindo h
      obtain ⟨p74, hp74, h⟩ := bindo h
      cases h
      exact q_ret e67 at_.at_ rfl (resL1 rfl (ResAt.arr rfl hp73 ia61 (by decide) hp74)) ⟨rfl, rfl⟩
def f (k : Nat) (S : HS) : Option (((List HV)) × HS) :=
  (letv (HS.new S (.cells 256 [List.replicate 256 (.int .u16 0)] true)) fun p1 =>
  (letv (HS.new p1 (.cells 256 [List.replicate 256 (.int .u16 0)] true)) fun p2 =>
  L0 k k (some (HA.cell0 S.next)) (some (HA.cell0 p1.next)) 0 p2))
theorem snd {k : Nat} {S : HS}  {p : ((List HV)) × HS} (h : f k S = some p) : HCall Try.prog base W0 β0 32 [] S (fun v S1 => v = (.agg p.1) ∧ S1 = p.2) := by
  unfold f at h
  refine HCall.of_run at_.at_ body ?_
  show HRun Try.prog base W0 β0 32 none [.code c0] ⟨[.tup [], .tup [], .tup [], .tup [], .tup [], .tup [], .tup [], .tup [], .tup [], .tup [], .tup [], .tup [], .tup [], .tup [], .tup [], .tup [], .tup [], .tup [], .tup [], .tup [], .tup [], .tup [], .tup [], .tup [], .tup [], .tup [], .tup [], .tup [], .tup [], .tup [], .tup [], .tup [], .tup [], .tup [], .tup [], .tup [], .tup [], .tup [], .tup [], .tup [], .tup [], .tup [], .tup [], .tup [], .tup [], .tup [], .tup [], .tup [], .tup [], .tup [], .tup [], .tup [], .tup [], .tup [], .tup [], .tup [], .tup [], .tup [], .tup [], .tup [], .tup [], .tup [], .tup [], .tup [], .tup [], .tup [], .tup [], .tup [], .tup [], .tup [], .tup [], .tup [], .tup [], .tup [], .tup [], .tup [], .tup [], .tup [], .tup [], .tup [], .tup [], .tup [], .tup [], .tup [], .tup [], .tup [], .tup [], .tup [], .tup [], .tup [], .tup [], .tup [], .tup [], .tup []], []⟩ S _
  refine q_seq e0 ?_
  refine q_region e1 rfl ?_
  obtain ⟨p1, hp1, h⟩ := leto h
  refine q_op (dst := some 0) rfl (fun _ ho => ok_alloc_arr ho za61 (fun β => .int _ _) (by decide) rfl hp1) ?_
  refine hr_region_end ?_
  try dsimp only [HAct.put, List.set_cons_zero, List.set_cons_succ]
  refine q_seq e2 ?_
  refine q_region e3 rfl ?_
  obtain ⟨p2, hp2, h⟩ := leto h
  refine q_op (dst := some 1) rfl (fun _ ho => ok_alloc_arr ho za61 (fun β => .int _ _) (by decide) rfl hp2) ?_
  refine hr_region_end ?_
  try dsimp only [HAct.put, List.set_cons_zero, List.set_cons_succ]
  refine q_seq e4 ?_
  refine q_seq e5 ?_
  refine q_region e6 rfl ?_
  refine q_op (dst := some 5) rfl (fun _ ho => ok_move ho (.int _ _)) ?_
  refine hr_region_end ?_
  try dsimp only [HAct.put, List.set_cons_zero, List.set_cons_succ]
  refine q_block e7 ?_
  refine q_loop e8 ?_
  try dsimp only [HAct.put, List.set_cons_zero, List.set_cons_succ]
  exact L0_snd  h
end
end valid_kinds
namespace valid_all
abbrev id : Nat := 28
theorem at_ : FnAt Try.prog 28 Try.f28 := ⟨Try.func28, by kernel_rfl⟩
noncomputable def c0 : Code := (Try.f28.body).getD .skip
noncomputable def c1 : Code := match c0 with | .seq x _ => x | _ => .skip
noncomputable def c2 : Code := match c0 with | .seq _ x => x | _ => .skip
noncomputable def c3 : Code := match c2 with | .seq x _ => x | _ => .skip
noncomputable def c4 : Code := match c3 with | .seq x _ => x | _ => .skip
noncomputable def c5 : Code := match c3 with | .seq _ x => x | _ => .skip
noncomputable def c6 : Code := match c5 with | .cond _ x _ => x | _ => .skip
noncomputable def c7 : Code := match c6 with | .seq x _ => x | _ => .skip
noncomputable def c8 : Code := match c6 with | .seq _ x => x | _ => .skip
noncomputable def c9 : Code := match c5 with | .cond _ _ x => x | _ => .skip
noncomputable def c10 : Code := match c2 with | .seq _ x => x | _ => .skip
noncomputable def c11 : Code := match c10 with | .seq x _ => x | _ => .skip
noncomputable def c12 : Code := match c10 with | .seq _ x => x | _ => .skip
noncomputable def c13 : Code := match c12 with | .seq x _ => x | _ => .skip
noncomputable def c14 : Code := match c13 with | .seq x _ => x | _ => .skip
noncomputable def c15 : Code := match c13 with | .seq _ x => x | _ => .skip
noncomputable def c16 : Code := match c15 with | .block _ x => x | _ => .skip
noncomputable def c17 : Code := match c16 with | .loop x => x | _ => .skip
noncomputable def c18 : Code := match c17 with | .seq x _ => x | _ => .skip
noncomputable def c19 : Code := match c17 with | .seq _ x => x | _ => .skip
noncomputable def c20 : Code := match c19 with | .seq x _ => x | _ => .skip
noncomputable def c21 : Code := match c20 with | .cond _ x _ => x | _ => .skip
noncomputable def c22 : Code := match c20 with | .cond _ _ x => x | _ => .skip
noncomputable def c23 : Code := match c19 with | .seq _ x => x | _ => .skip
noncomputable def c24 : Code := match c23 with | .seq x _ => x | _ => .skip
noncomputable def c25 : Code := match c24 with | .block _ x => x | _ => .skip
noncomputable def c26 : Code := match c25 with | .seq x _ => x | _ => .skip
noncomputable def c27 : Code := match c25 with | .seq _ x => x | _ => .skip
noncomputable def c28 : Code := match c27 with | .seq x _ => x | _ => .skip
noncomputable def c29 : Code := match c27 with | .seq _ x => x | _ => .skip
noncomputable def c30 : Code := match c29 with | .cond _ x _ => x | _ => .skip
noncomputable def c31 : Code := match c30 with | .seq x _ => x | _ => .skip
noncomputable def c32 : Code := match c30 with | .seq _ x => x | _ => .skip
noncomputable def c33 : Code := match c29 with | .cond _ _ x => x | _ => .skip
noncomputable def c34 : Code := match c23 with | .seq _ x => x | _ => .skip
noncomputable def c35 : Code := match c12 with | .seq _ x => x | _ => .skip
noncomputable def c36 : Code := match c35 with | .seq x _ => x | _ => .skip
noncomputable def c37 : Code := match c35 with | .seq _ x => x | _ => .skip
theorem e0 : c0 = .seq c1 c2 := by kernel_rfl
noncomputable def r1 : Array Oper := match c1 with | .region _ x _ => x | _ => #[]
theorem e1 : c1 = .region 0 r1 false := by kernel_rfl
theorem e2 : c2 = .seq c3 c10 := by kernel_rfl
theorem e3 : c3 = .seq c4 c5 := by kernel_rfl
noncomputable def r4 : Array Oper := match c4 with | .region _ x _ => x | _ => #[]
theorem e4 : c4 = .region 1 r4 false := by kernel_rfl
theorem e5 : c5 = .cond (.tmp 20) c6 c9 := by kernel_rfl
theorem e6 : c6 = .seq c7 c8 := by kernel_rfl
noncomputable def r7 : Array Oper := match c7 with | .region _ x _ => x | _ => #[]
theorem e7 : c7 = .region 2 r7 false := by kernel_rfl
theorem e8 : c8 = .ret := by kernel_rfl
theorem e9 : c9 = .skip := by kernel_rfl
theorem e10 : c10 = .seq c11 c12 := by kernel_rfl
noncomputable def r11 : Array Oper := match c11 with | .region _ x _ => x | _ => #[]
theorem e11 : c11 = .region 3 r11 false := by kernel_rfl
theorem e12 : c12 = .seq c13 c35 := by kernel_rfl
theorem e13 : c13 = .seq c14 c15 := by kernel_rfl
noncomputable def r14 : Array Oper := match c14 with | .region _ x _ => x | _ => #[]
theorem e14 : c14 = .region 4 r14 false := by kernel_rfl
theorem e15 : c15 = .block 0 c16 := by kernel_rfl
theorem e16 : c16 = .loop c17 := by kernel_rfl
theorem e17 : c17 = .seq c18 c19 := by kernel_rfl
noncomputable def r18 : Array Oper := match c18 with | .region _ x _ => x | _ => #[]
theorem e18 : c18 = .region 5 r18 false := by kernel_rfl
theorem e19 : c19 = .seq c20 c23 := by kernel_rfl
theorem e20 : c20 = .cond (.tmp 25) c21 c22 := by kernel_rfl
theorem e21 : c21 = .skip := by kernel_rfl
theorem e22 : c22 = .exit 0 := by kernel_rfl
theorem e23 : c23 = .seq c24 c34 := by kernel_rfl
theorem e24 : c24 = .block 1 c25 := by kernel_rfl
theorem e25 : c25 = .seq c26 c27 := by kernel_rfl
noncomputable def r26 : Array Oper := match c26 with | .region _ x _ => x | _ => #[]
theorem e26 : c26 = .region 6 r26 false := by kernel_rfl
theorem e27 : c27 = .seq c28 c29 := by kernel_rfl
noncomputable def r28 : Array Oper := match c28 with | .region _ x _ => x | _ => #[]
theorem e28 : c28 = .region 7 r28 false := by kernel_rfl
theorem e29 : c29 = .cond (.tmp 34) c30 c33 := by kernel_rfl
theorem e30 : c30 = .seq c31 c32 := by kernel_rfl
noncomputable def r31 : Array Oper := match c31 with | .region _ x _ => x | _ => #[]
theorem e31 : c31 = .region 8 r31 false := by kernel_rfl
theorem e32 : c32 = .ret := by kernel_rfl
theorem e33 : c33 = .skip := by kernel_rfl
noncomputable def r34 : Array Oper := match c34 with | .region _ x _ => x | _ => #[]
theorem e34 : c34 = .region 9 r34 false := by kernel_rfl
theorem e35 : c35 = .seq c36 c37 := by kernel_rfl
noncomputable def r36 : Array Oper := match c36 with | .region _ x _ => x | _ => #[]
theorem e36 : c36 = .region 10 r36 false := by kernel_rfl
theorem e37 : c37 = .ret := by kernel_rfl
theorem body : Try.f28.body = some c0 := by kernel_rfl
section
variable {base : Nat} {W0 : World} {β0 : Bt}
def L1 (k : Nat) : Nat → (List UInt8) → Int → (Option HA) → Int → Int → HS → Option ((Bool) × HS)
  | 0, _, _, _, _, _, _ => none
  | n + 1, y0, y3, y9, y23, y24, S =>
    (if y24 < y23 then
    (Option.bind (sat y0 y24) fun p8 =>
    (Option.bind (y9) fun p9 =>
    (if 0 ≤ ((UInt8.toNat p8 : Int) : Int) ∧ ((UInt8.toNat p8 : Int) : Int) < 256 then
    (Option.bind (HS.ldI S .u16 (HA.fld p9 (Int.toNat (UInt8.toNat p8 : Int)))) fun p11 =>
    (if (iand .u16 p11 y3) = 0 then
    some (false, S) else
    (L1 k n) y0 y3 y9 y23 (w64 (y24 + 1)) S)) else none))) else
    some (true, S))
theorem L1_snd {k : Nat}  : ∀ {n : Nat} ⦃y0 : (List UInt8)⦄ ⦃y3 : Int⦄ ⦃y9 : (Option HA)⦄ ⦃y23 : Int⦄ ⦃y24 : Int⦄ ⦃S : HS⦄ ⦃p : (Bool) × HS⦄ ⦃g1 g2 g4 g5 g6 g7 g8 g10 g11 g12 g13 g14 g15 g16 g17 g18 g19 g20 g21 g22 g25 g26 g27 g28 g29 g30 g31 g32 g33 g34 g35 : HV⦄, L1 k n y0 y3 y9 y23 y24 S = some p → HRun Try.prog base W0 β0 28 none [.inLoop c17, .inBlock 0, .code c35] ⟨[(.str y0), g1, g2, (.int .u16 y3), g4, g5, g6, g7, g8, (.ptr y9), g10, g11, g12, g13, g14, g15, g16, g17, g18, g19, g20, g21, g22, (.int .i64 y23), (.int .i64 y24), g25, g26, g27, g28, g29, g30, g31, g32, g33, g34, g35], []⟩ S (fun v S1 => v = (.bool p.1) ∧ S1 = p.2) := by
  intro n
  induction n with
  | zero => intro _ _ _ _ _ _ _ _ _ _ _ _ _ _ _ _ _ _ _ _ _ _ _ _ _ _ _ _ _ _ _ _ _ _ _ _ _ _ h; cases h
  | succ n ih =>
    intro y0 y3 y9 y23 y24 S p g1 g2 g4 g5 g6 g7 g8 g10 g11 g12 g13 g14 g15 g16 g17 g18 g19 g20 g21 g22 g25 g26 g27 g28 g29 g30 g31 g32 g33 g34 g35 h
    simp only [L1] at h
    refine hr_inLoop ?_
    refine q_seq e17 ?_
    refine q_region e18 rfl ?_
    refine q_op (dst := some 25) rfl (fun _ ho => ok_ibin ho (.tmp rfl) (.tmp rfl) rfl) ?_
    refine hr_region_end ?_
    try dsimp only [HAct.put, List.set_cons_zero, List.set_cons_succ]
    refine q_seq e19 ?_
    rcases ifc h with ⟨hc7, h⟩ | ⟨hc7, h⟩
    · refine q_cond_t e20 (.tmp rfl) (decide_eq_true hc7) ?_
      refine q_skipc e21 ?_
      refine q_seq e23 ?_
      refine q_block e24 ?_
      refine q_seq e25 ?_
      refine q_region e26 rfl ?_
      refine q_op (dst := some 26) rfl (fun _ ho => ok_move ho (.tmp rfl)) ?_
      refine q_op (dst := some 10) rfl (fun _ ho => ok_assign ho (.tmp rfl)) ?_
      refine hr_region_end ?_
      try dsimp only [HAct.put, List.set_cons_zero, List.set_cons_succ]
      refine q_seq e27 ?_
      refine q_region e28 rfl ?_
      refine q_op (dst := some 27) rfl (fun _ ho => ok_move ho (.tmp rfl)) ?_
      refine q_op (dst := some 28) rfl (fun _ ho => ok_move ho (.tmp rfl)) ?_
      obtain ⟨p8, hp8, h⟩ := bindo h
      refine q_op (dst := some 29) rfl (fun _ ho => ok_index_s ho tu9 (.tmp rfl) (.tmp rfl) hp8) ?_
      obtain ⟨p9, hp9, h⟩ := bindo h
      obtain ⟨hg10, h⟩ := gd h
      refine q_op (dst := some 30) rfl (fun _ ho => ok_indexAddr_arr ho ta61 sz59 (.tmp rfl) hp9 (.tmp rfl) hg10) ?_
      try dsimp only [HAct.put, List.set_cons_zero, List.set_cons_succ]
      obtain ⟨p11, hp11, h⟩ := bindo h
      refine q_op (dst := some 31) rfl (fun _ ho => ok_load_s ho sc59 (.tmp rfl) rfl (ldI_out hp11)) ?_
      refine q_op (dst := some 32) rfl (fun _ ho => ok_move ho (.tmp rfl)) ?_
      refine q_op (dst := some 33) rfl (fun _ ho => ok_ibin ho (.tmp rfl) (.tmp rfl) rfl) ?_
      refine q_op (dst := some 34) rfl (fun _ ho => ok_ibin ho (.tmp rfl) (.int _ _) rfl) ?_
      refine hr_region_end ?_
      try dsimp only [HAct.put, List.set_cons_zero, List.set_cons_succ]
      rcases ifc h with ⟨hc12, h⟩ | ⟨hc12, h⟩
      · refine q_cond_t e29 (.tmp rfl) (decide_eq_true hc12) ?_
        refine q_seq e30 ?_
        refine q_region e31 rfl ?_
        refine q_op (dst := some 8) rfl (fun _ ho => ok_assign ho (.bool _)) ?_
        refine hr_region_end ?_
        try dsimp only [HAct.put, List.set_cons_zero, List.set_cons_succ]
        cases h
        exact q_ret e32 at_.at_ rfl (res1 rfl rfl) ⟨rfl, rfl⟩
      · refine q_cond_f e29 (.tmp rfl) (decide_eq_false hc12) ?_
        refine q_skipc e33 ?_
        refine hr_inBlock ?_
        refine q_region e34 rfl ?_
        refine q_op (dst := some 35) rfl (fun _ ho => ok_ibin ho (.tmp rfl) (.int _ _) rfl) ?_
        refine q_op (dst := some 24) rfl (fun _ ho => ok_move ho (.tmp rfl)) ?_
        refine hr_region_end ?_
        try dsimp only [HAct.put, List.set_cons_zero, List.set_cons_succ]
        try dsimp only [HAct.put, List.set_cons_zero, List.set_cons_succ]
        exact ih h
    · refine q_cond_f e20 (.tmp rfl) (decide_eq_false hc7) ?_
      refine q_exit e22 rfl ?_
      refine q_seq e35 ?_
      refine q_region e36 rfl ?_
      refine q_op (dst := some 8) rfl (fun _ ho => ok_assign ho (.bool _)) ?_
      refine hr_region_end ?_
      try dsimp only [HAct.put, List.set_cons_zero, List.set_cons_succ]
      cases h
      exact q_ret e37 at_.at_ rfl (res1 rfl rfl) ⟨rfl, rfl⟩
def J0 (k : Nat) (y0 : (List UInt8)) (y3 : Int) (y20 : Bool) (S : HS) : Option ((Bool) × HS) :=
  (if y20 = true then
  some (false, S) else
  (Option.bind (valid_kinds.f k S) fun p3 =>
  (letv (HS.new p3.2 (.cells 256 [List.replicate 256 (.int .u16 0)] true)) fun p4 =>
  (if List.length p3.1 = 256 ∧ List.all p3.1 HV.flat = true then
  (Option.bind (HS.sets p4 (HA.cell0 p3.2.next) p3.1) fun p6 =>
  L1 k k y0 y3 (some (HA.cell0 p3.2.next)) (List.length y0 : Int) 0 p6) else none))))
theorem J0_snd {k : Nat}  {y0 : (List UInt8)} {y3 : Int} {y20 : Bool} {S : HS} {p : (Bool) × HS} {g1 g2 g4 g5 g6 g7 g8 g9 g10 g11 g12 g13 g14 g15 g16 g17 g18 g19 g21 g22 g23 g24 g25 g26 g27 g28 g29 g30 g31 g32 g33 g34 g35 : HV} (h : J0 k y0 y3 y20 S = some p) : HRun Try.prog base W0 β0 28 none [.code c5, .code c10] ⟨[(.str y0), g1, g2, (.int .u16 y3), g4, g5, g6, g7, g8, g9, g10, g11, g12, g13, g14, g15, g16, g17, g18, g19, (.bool y20), g21, g22, g23, g24, g25, g26, g27, g28, g29, g30, g31, g32, g33, g34, g35], []⟩ S (fun v S1 => v = (.bool p.1) ∧ S1 = p.2) := by
  unfold J0 at h
  rcases ifc h with ⟨hc2, h⟩ | ⟨hc2, h⟩
  · refine q_cond_t e5 (.tmp rfl) hc2 ?_
    refine q_seq e6 ?_
    refine q_region e7 rfl ?_
    refine q_op (dst := some 8) rfl (fun _ ho => ok_assign ho (.bool _)) ?_
    refine hr_region_end ?_
    try dsimp only [HAct.put, List.set_cons_zero, List.set_cons_succ]
    cases h
    exact q_ret e8 at_.at_ rfl (res1 rfl rfl) ⟨rfl, rfl⟩
  · refine q_cond_f e5 (.tmp rfl) (bfalse hc2) ?_
    refine q_skipc e9 ?_
    refine q_seq e10 ?_
    refine q_region e11 rfl ?_
    obtain ⟨p3, hp3, h⟩ := bindo h
    refine q_call (dst := some 21) rfl (.func _) Evs.nil (HInv.static valid_kinds.at_ valid_kinds.body (valid_kinds.snd  hp3)) ?_
    rintro _ _ ⟨rfl, rfl⟩
    obtain ⟨p4, hp4, h⟩ := leto h
    refine q_op (dst := some 9) rfl (fun _ ho => ok_alloc_arr ho za61 (fun β => .int _ _) (by decide) rfl hp4) ?_
    obtain ⟨hg5, h⟩ := gd h
    obtain ⟨p6, hp6, h⟩ := bindo h
    refine q_op (dst := none) rfl (fun _ ho => ok_store_arr ho sz61 (.tmp rfl) rfl (.tmp rfl) hg5 hp6) ?_
    refine hr_region_end ?_
    try dsimp only [HAct.put, List.set_cons_zero, List.set_cons_succ]
    refine q_seq e12 ?_
    refine q_seq e13 ?_
    refine q_region e14 rfl ?_
    refine q_op (dst := some 22) rfl (fun _ ho => ok_move ho (.tmp rfl)) ?_
    refine q_op (dst := some 23) rfl (fun _ ho => ok_len_str ho rfl tu9 (.tmp rfl)) ?_
    refine q_op (dst := some 24) rfl (fun _ ho => ok_move ho (.int _ _)) ?_
    refine hr_region_end ?_
    try dsimp only [HAct.put, List.set_cons_zero, List.set_cons_succ]
    refine q_block e15 ?_
    refine q_loop e16 ?_
    try dsimp only [HAct.put, List.set_cons_zero, List.set_cons_succ]
    exact L1_snd  h
def f (k : Nat) (x0 : (List UInt8)) (x1 : Int) (x2 : Int) (x3 : Int) (S : HS) : Option ((Bool) × HS) :=
  (if (List.length x0 : Int) < x1 then
  J0 k x0 x3 true S else
  J0 k x0 x3 (decide ((List.length x0 : Int) > x2)) S)
theorem snd {k : Nat} {x0 : (List UInt8)} {x1 : Int} {x2 : Int} {x3 : Int} {S : HS}  {p : (Bool) × HS} (h : f k x0 x1 x2 x3 S = some p) : HCall Try.prog base W0 β0 28 [(.str x0), (.int .i64 x1), (.int .i64 x2), (.int .u16 x3)] S (fun v S1 => v = (.bool p.1) ∧ S1 = p.2) := by
  unfold f at h
  refine HCall.of_run at_.at_ body ?_
  show HRun Try.prog base W0 β0 28 none [.code c0] ⟨[(.str x0), (.int .i64 x1), (.int .i64 x2), (.int .u16 x3), .tup [], .tup [], .tup [], .tup [], .tup [], .tup [], .tup [], .tup [], .tup [], .tup [], .tup [], .tup [], .tup [], .tup [], .tup [], .tup [], .tup [], .tup [], .tup [], .tup [], .tup [], .tup [], .tup [], .tup [], .tup [], .tup [], .tup [], .tup [], .tup [], .tup [], .tup [], .tup []], []⟩ S _
  refine q_seq e0 ?_
  refine q_region e1 rfl ?_
  refine q_op (dst := some 8) rfl (fun _ ho => ok_assign ho (.bool _)) ?_
  refine hr_region_end ?_
  try dsimp only [HAct.put, List.set_cons_zero, List.set_cons_succ]
  refine q_seq e2 ?_
  refine q_seq e3 ?_
  refine q_region e4 rfl ?_
  refine q_op (dst := some 11) rfl (fun _ ho => ok_move ho (.tmp rfl)) ?_
  refine q_op (dst := some 12) rfl (fun _ ho => ok_len_str ho rfl tu9 (.tmp rfl)) ?_
  refine q_op (dst := some 13) rfl (fun _ ho => ok_move ho (.tmp rfl)) ?_
  refine q_op (dst := some 14) rfl (fun _ ho => ok_ibin ho (.tmp rfl) (.tmp rfl) rfl) ?_
  try dsimp only [HAct.put, List.set_cons_zero, List.set_cons_succ]
  refine q_op (dst := some 15) rfl (fun _ ho => ok_move ho (.tmp rfl)) ?_
  rcases ifc h with ⟨hc1, h⟩ | ⟨hc1, h⟩
  · refine q_skip (dst := some 16) (t := 15) rfl rfl rfl (decide_eq_true hc1) ?_
    refine q_skip (dst := some 17) (t := 15) rfl rfl rfl (decide_eq_true hc1) ?_
    refine q_skip (dst := some 18) (t := 15) rfl rfl rfl (decide_eq_true hc1) ?_
    try dsimp only [HAct.put, List.set_cons_zero, List.set_cons_succ]
    refine q_skip (dst := some 19) (t := 15) rfl rfl rfl (decide_eq_true hc1) ?_
    refine q_op (dst := some 20) rfl (fun _ ho => ok_pick_tt ho (.tmp rfl) (decide_eq_true hc1) (.bool _)) ?_
    refine hr_region_end ?_
    try dsimp only [HAct.put, List.set_cons_zero, List.set_cons_succ]
    try dsimp only [HAct.put, List.set_cons_zero, List.set_cons_succ]
    exact J0_snd  h
  · refine q_op_g (t := 15) (dst := some 16) rfl rfl rfl (decide_eq_false hc1) (fun _ ho => ok_move ho (.tmp rfl)) ?_
    refine q_op_g (t := 15) (dst := some 17) rfl rfl rfl (decide_eq_false hc1) (fun _ ho => ok_len_str ho rfl tu9 (.tmp rfl)) ?_
    refine q_op_g (t := 15) (dst := some 18) rfl rfl rfl (decide_eq_false hc1) (fun _ ho => ok_move ho (.tmp rfl)) ?_
    try dsimp only [HAct.put, List.set_cons_zero, List.set_cons_succ]
    refine q_op_g (t := 15) (dst := some 19) rfl rfl rfl (decide_eq_false hc1) (fun _ ho => ok_ibin ho (.tmp rfl) (.tmp rfl) rfl) ?_
    refine q_op (dst := some 20) rfl (fun _ ho => ok_pick_ff ho (.tmp rfl) (decide_eq_false hc1) (.tmp rfl)) ?_
    refine hr_region_end ?_
    try dsimp only [HAct.put, List.set_cons_zero, List.set_cons_succ]
    try dsimp only [HAct.put, List.set_cons_zero, List.set_cons_succ]
    exact J0_snd  h
end
end valid_all
namespace valid_Text
abbrev id : Nat := 22
theorem at_ : FnAt Try.prog 22 Try.f22 := ⟨Try.func22, by kernel_rfl⟩
noncomputable def c0 : Code := (Try.f22.body).getD .skip
noncomputable def c1 : Code := match c0 with | .seq x _ => x | _ => .skip
noncomputable def c2 : Code := match c0 with | .seq _ x => x | _ => .skip
noncomputable def c3 : Code := match c2 with | .seq x _ => x | _ => .skip
noncomputable def c4 : Code := match c2 with | .seq _ x => x | _ => .skip
theorem e0 : c0 = .seq c1 c2 := by kernel_rfl
noncomputable def r1 : Array Oper := match c1 with | .region _ x _ => x | _ => #[]
theorem e1 : c1 = .region 0 r1 false := by kernel_rfl
theorem e2 : c2 = .seq c3 c4 := by kernel_rfl
noncomputable def r3 : Array Oper := match c3 with | .region _ x _ => x | _ => #[]
theorem e3 : c3 = .region 1 r3 false := by kernel_rfl
theorem e4 : c4 = .ret := by kernel_rfl
theorem body : Try.f22.body = some c0 := by kernel_rfl
section
variable {base : Nat} {W0 : World} {β0 : Bt}
def f (k : Nat) (x0 : (List UInt8)) (S : HS) : Option ((Bool) × HS) :=
  (Option.bind (valid_all.f k x0 0 (List.length x0 : Int) 64 S) fun p1 =>
  some (p1.1, p1.2))
theorem snd {k : Nat} {x0 : (List UInt8)} {S : HS}  {p : (Bool) × HS} (h : f k x0 S = some p) : HCall Try.prog base W0 β0 22 [(.str x0)] S (fun v S1 => v = (.bool p.1) ∧ S1 = p.2) := by
  unfold f at h
  refine HCall.of_run at_.at_ body ?_
  show HRun Try.prog base W0 β0 22 none [.code c0] ⟨[(.str x0), .tup [], .tup [], .tup [], .tup [], .tup [], .tup []], []⟩ S _
  refine q_seq e0 ?_
  refine q_region e1 rfl ?_
  refine q_op (dst := some 2) rfl (fun _ ho => ok_assign ho (.bool _)) ?_
  refine hr_region_end ?_
  try dsimp only [HAct.put, List.set_cons_zero, List.set_cons_succ]
  refine q_seq e2 ?_
  refine q_region e3 rfl ?_
  refine q_op (dst := some 3) rfl (fun _ ho => ok_move ho (.tmp rfl)) ?_
  refine q_op (dst := some 4) rfl (fun _ ho => ok_move ho (.tmp rfl)) ?_
  refine q_op (dst := some 5) rfl (fun _ ho => ok_len_str ho rfl tu9 (.tmp rfl)) ?_
  obtain ⟨p1, hp1, h⟩ := bindo h
  refine q_call (dst := some 6) rfl (.func _) (.cons (.tmp rfl) (.cons (.int _ _) (.cons (.tmp rfl) (.cons (.int _ _) Evs.nil)))) (HInv.static valid_all.at_ valid_all.body (valid_all.snd  hp1)) ?_
  rintro _ _ ⟨rfl, rfl⟩
  try dsimp only [HAct.put, List.set_cons_zero, List.set_cons_succ]
  refine q_op (dst := some 2) rfl (fun _ ho => ok_assign ho (.tmp rfl)) ?_
  refine hr_region_end ?_
  try dsimp only [HAct.put, List.set_cons_zero, List.set_cons_succ]
  cases h
  exact q_ret e4 at_.at_ rfl (res1 rfl rfl) ⟨rfl, rfl⟩
end
end valid_Text
namespace sendq_Queue_Push
abbrev id : Nat := 10
theorem at_ : FnAt Try.prog 10 Try.f10 := ⟨Try.func10, by kernel_rfl⟩
noncomputable def c0 : Code := (Try.f10.body).getD .skip
noncomputable def c1 : Code := match c0 with | .seq x _ => x | _ => .skip
noncomputable def c2 : Code := match c0 with | .seq _ x => x | _ => .skip
noncomputable def c3 : Code := match c2 with | .seq x _ => x | _ => .skip
noncomputable def c4 : Code := match c3 with | .seq x _ => x | _ => .skip
noncomputable def c5 : Code := match c3 with | .seq _ x => x | _ => .skip
noncomputable def c6 : Code := match c5 with | .cond _ x _ => x | _ => .skip
noncomputable def c7 : Code := match c6 with | .seq x _ => x | _ => .skip
noncomputable def c8 : Code := match c6 with | .seq _ x => x | _ => .skip
noncomputable def c9 : Code := match c5 with | .cond _ _ x => x | _ => .skip
noncomputable def c10 : Code := match c2 with | .seq _ x => x | _ => .skip
noncomputable def c11 : Code := match c10 with | .seq x _ => x | _ => .skip
noncomputable def c12 : Code := match c11 with | .seq x _ => x | _ => .skip
noncomputable def c13 : Code := match c11 with | .seq _ x => x | _ => .skip
noncomputable def c14 : Code := match c13 with | .cond _ x _ => x | _ => .skip
noncomputable def c15 : Code := match c14 with | .seq x _ => x | _ => .skip
noncomputable def c16 : Code := match c14 with | .seq _ x => x | _ => .skip
noncomputable def c17 : Code := match c16 with | .seq x _ => x | _ => .skip
noncomputable def c18 : Code := match c16 with | .seq _ x => x | _ => .skip
noncomputable def c19 : Code := match c13 with | .cond _ _ x => x | _ => .skip
noncomputable def c20 : Code := match c10 with | .seq _ x => x | _ => .skip
noncomputable def c21 : Code := match c20 with | .seq x _ => x | _ => .skip
noncomputable def c22 : Code := match c20 with | .seq _ x => x | _ => .skip
noncomputable def c23 : Code := match c22 with | .seq x _ => x | _ => .skip
noncomputable def c24 : Code := match c22 with | .seq _ x => x | _ => .skip
noncomputable def c25 : Code := match c24 with | .seq x _ => x | _ => .skip
noncomputable def c26 : Code := match c24 with | .seq _ x => x | _ => .skip
theorem e0 : c0 = .seq c1 c2 := by kernel_rfl
noncomputable def r1 : Array Oper := match c1 with | .region _ x _ => x | _ => #[]
theorem e1 : c1 = .region 0 r1 false := by kernel_rfl
theorem e2 : c2 = .seq c3 c10 := by kernel_rfl
theorem e3 : c3 = .seq c4 c5 := by kernel_rfl
noncomputable def r4 : Array Oper := match c4 with | .region _ x _ => x | _ => #[]
theorem e4 : c4 = .region 1 r4 false := by kernel_rfl
theorem e5 : c5 = .cond (.tmp 22) c6 c9 := by kernel_rfl
theorem e6 : c6 = .seq c7 c8 := by kernel_rfl
noncomputable def r7 : Array Oper := match c7 with | .region _ x _ => x | _ => #[]
theorem e7 : c7 = .region 2 r7 false := by kernel_rfl
theorem e8 : c8 = .ret := by kernel_rfl
theorem e9 : c9 = .skip := by kernel_rfl
theorem e10 : c10 = .seq c11 c20 := by kernel_rfl
theorem e11 : c11 = .seq c12 c13 := by kernel_rfl
noncomputable def r12 : Array Oper := match c12 with | .region _ x _ => x | _ => #[]
theorem e12 : c12 = .region 3 r12 true := by kernel_rfl
theorem e13 : c13 = .cond (.tmp 36) c14 c19 := by kernel_rfl
theorem e14 : c14 = .seq c15 c16 := by kernel_rfl
noncomputable def r15 : Array Oper := match c15 with | .region _ x _ => x | _ => #[]
theorem e15 : c15 = .region 4 r15 false := by kernel_rfl
theorem e16 : c16 = .seq c17 c18 := by kernel_rfl
noncomputable def r17 : Array Oper := match c17 with | .region _ x _ => x | _ => #[]
theorem e17 : c17 = .region 5 r17 false := by kernel_rfl
theorem e18 : c18 = .ret := by kernel_rfl
theorem e19 : c19 = .skip := by kernel_rfl
theorem e20 : c20 = .seq c21 c22 := by kernel_rfl
noncomputable def r21 : Array Oper := match c21 with | .region _ x _ => x | _ => #[]
theorem e21 : c21 = .region 6 r21 false := by kernel_rfl
theorem e22 : c22 = .seq c23 c24 := by kernel_rfl
noncomputable def r23 : Array Oper := match c23 with | .region _ x _ => x | _ => #[]
theorem e23 : c23 = .region 7 r23 false := by kernel_rfl
theorem e24 : c24 = .seq c25 c26 := by kernel_rfl
noncomputable def r25 : Array Oper := match c25 with | .region _ x _ => x | _ => #[]
theorem e25 : c25 = .region 8 r25 false := by kernel_rfl
theorem e26 : c26 = .ret := by kernel_rfl
theorem body : Try.f10.body = some c0 := by kernel_rfl
section
variable {base : Nat} {W0 : World} {β0 : Bt}
def J2 (k : Nat) (y0 : (Option HA)) (y1 : (List UInt8)) (y22 : Bool) (S : HS) : Option ((Bool) × HS) :=
  (if y22 = true then
  some (false, S) else
  (Option.bind (y0) fun p5 =>
  (Option.bind (HS.ldSl S (HA.fld p5 1)) fun p6 =>
  (Option.bind (y0) fun p7 =>
  (Option.bind (HS.ldI S .i64 (HA.fld p7 0)) fun p8 =>
  (if (w64 ((w64 ((Sl.len p6 : Int) + (List.length y1 : Int))) + 2)) > p8 then
  (Option.bind (y0) fun p10 =>
  (Option.bind (HS.sets S (HA.fld p10 4) [(.bool true)]) fun p11 =>
  some (false, p11))) else
  (Option.bind (y0) fun p12 =>
  (Option.bind (HS.ldSl S (HA.fld p12 1)) fun p13 =>
  (Option.bind (HS.app S p13 (bytesRows y1) 1) fun p14 =>
  (Option.bind (y0) fun p15 =>
  (Option.bind (HS.sets (p14.2) (HA.fld p15 1) [(Sl.hv (p14.1))]) fun p16 =>
  (Option.bind (y0) fun p17 =>
  (Option.bind (HS.ldSl p16 (HA.fld p17 1)) fun p18 =>
  (Option.bind (HS.app p16 p18 (bytesRows ([13, 10] : List UInt8)) 1) fun p19 =>
  (Option.bind (y0) fun p20 =>
  (Option.bind (HS.sets (p19.2) (HA.fld p20 1) [(Sl.hv (p19.1))]) fun p21 =>
  some (true, p21)))))))))))))))))
theorem J2_snd {k : Nat}  {y0 : (Option HA)} {y1 : (List UInt8)} {y22 : Bool} {S : HS} {p : (Bool) × HS} {g2 g3 g4 g5 g6 g7 g8 g9 g10 g11 g12 g13 g14 g15 g16 g17 g18 g19 g20 g21 g23 g24 g25 g26 g27 g28 g29 g30 g31 g32 g33 g34 g35 g36 g37 g38 g39 g40 g41 g42 g43 g44 g45 g46 g47 g48 g49 g50 g51 g52 g53 g54 g55 g56 : HV} (h : J2 k y0 y1 y22 S = some p) : HRun Try.prog base W0 β0 10 none [.code c5, .code c10] ⟨[(.ptr y0), (.str y1), g2, g3, g4, g5, g6, g7, g8, g9, g10, g11, g12, g13, g14, g15, g16, g17, g18, g19, g20, g21, (.bool y22), g23, g24, g25, g26, g27, g28, g29, g30, g31, g32, g33, g34, g35, g36, g37, g38, g39, g40, g41, g42, g43, g44, g45, g46, g47, g48, g49, g50, g51, g52, g53, g54, g55, g56], []⟩ S (fun v S1 => v = (.bool p.1) ∧ S1 = p.2) := by
  unfold J2 at h
  rcases ifc h with ⟨hc4, h⟩ | ⟨hc4, h⟩
  · refine q_cond_t e5 (.tmp rfl) hc4 ?_
    refine q_seq e6 ?_
    refine q_region e7 rfl ?_
    refine q_op (dst := some 4) rfl (fun _ ho => ok_assign ho (.bool _)) ?_
    refine hr_region_end ?_
    try dsimp only [HAct.put, List.set_cons_zero, List.set_cons_succ]
    cases h
    exact q_ret e8 at_.at_ rfl (res1 rfl rfl) ⟨rfl, rfl⟩
  · refine q_cond_f e5 (.tmp rfl) (bfalse hc4) ?_
    refine q_skipc e9 ?_
    refine q_seq e10 ?_
    refine q_seq e11 ?_
    refine x_start (cls := [0, 0, 0, 1, 0, 0, 0, 0, 0, 0, 0, 0, 1, 0]) (rk := [0, 1, 2, 3, 4, 5, 6, 7, 8, 9, 10, 11, 12, 13]) e12 (by kernel_rfl) ?_
    refine x_go (f_op (dst := some 23) (ts := [0]) rfl (by intro _ _ h; cases h) (by kernel_rfl) (fun _ _ ho => ok_move ho (.tmp rfl))) rfl ?_
    obtain ⟨p5, hp5, h⟩ := bindo h
    refine x_go (f_op (dst := some 24) (ts := [23]) rfl (by intro _ _ h; cases h) (by kernel_rfl) (fun _ _ ho => ok_nilCheck_p ho (.tmp rfl) hp5)) rfl ?_
    refine x_go (f_op (dst := some 25) (ts := [24]) rfl (by intro _ _ h; cases h) (by kernel_rfl) (fun _ _ ho => ok_fieldAddr_s ho fi53_1 (by decide) (.tmp rfl) rfl)) rfl ?_
    obtain ⟨p6, hp6, h⟩ := bindo h
    refine x_go (r_op (dst := some 26) (ts := [25]) rfl (by intro _ _ h; cases h) (by kernel_rfl) (fun _ ho => ok_load_s ho sc31 (.tmp rfl) rfl (ldSl_out hp6))) rfl ?_
    try dsimp only [HAct.put, List.set_cons_zero, List.set_cons_succ]
    refine x_go (f_op (dst := some 27) (ts := [26]) rfl (by intro _ _ h; cases h) (by kernel_rfl) (fun _ _ ho => ok_len_sl (q := Sl.a p6) (n := Sl.len p6) (z := Sl.cap p6) ho rfl tu31 (.tmp rfl))) rfl ?_
    refine x_go (f_op (dst := some 28) (ts := [1]) rfl (by intro _ _ h; cases h) (by kernel_rfl) (fun _ _ ho => ok_move ho (.tmp rfl))) rfl ?_
    refine x_go (f_op (dst := some 29) (ts := [28]) rfl (by intro _ _ h; cases h) (by kernel_rfl) (fun _ _ ho => ok_len_str ho rfl tu9 (.tmp rfl))) rfl ?_
    refine x_go (f_op (dst := some 30) (ts := [27, 29]) rfl (by intro _ _ h; cases h) (by kernel_rfl) (fun _ _ ho => ok_ibin ho (.tmp rfl) (.tmp rfl) rfl)) rfl ?_
    try dsimp only [HAct.put, List.set_cons_zero, List.set_cons_succ]
    refine x_go (f_op (dst := some 31) (ts := [30]) rfl (by intro _ _ h; cases h) (by kernel_rfl) (fun _ _ ho => ok_ibin ho (.tmp rfl) (.int _ _) rfl)) rfl ?_
    refine x_go (f_op (dst := some 32) (ts := [0]) rfl (by intro _ _ h; cases h) (by kernel_rfl) (fun _ _ ho => ok_move ho (.tmp rfl))) rfl ?_
    obtain ⟨p7, hp7, h⟩ := bindo h
    refine x_go (f_op (dst := some 33) (ts := [32]) rfl (by intro _ _ h; cases h) (by kernel_rfl) (fun _ _ ho => ok_nilCheck_p ho (.tmp rfl) hp7)) rfl ?_
    refine x_go (f_op (dst := some 34) (ts := [33]) rfl (by intro _ _ h; cases h) (by kernel_rfl) (fun _ _ ho => ok_fieldAddr_s ho fi53_0 (by decide) (.tmp rfl) rfl)) rfl ?_
    try dsimp only [HAct.put, List.set_cons_zero, List.set_cons_succ]
    obtain ⟨p8, hp8, h⟩ := bindo h
    refine x_go (r_op (dst := some 35) (ts := [34]) rfl (by intro _ _ h; cases h) (by kernel_rfl) (fun _ ho => ok_load_s ho sc3 (.tmp rfl) rfl (ldI_out hp8))) rfl ?_
    refine x_go (f_op (dst := some 36) (ts := [31, 35]) rfl (by intro _ _ h; cases h) (by kernel_rfl) (fun _ _ ho => ok_ibin ho (.tmp rfl) (.tmp rfl) rfl)) rfl ?_
    refine x_rest rfl ?_
    refine hr_region_end ?_
    try dsimp only [HAct.put, List.set_cons_zero, List.set_cons_succ]
    rcases ifc h with ⟨hc9, h⟩ | ⟨hc9, h⟩
    · refine q_cond_t e13 (.tmp rfl) (decide_eq_true hc9) ?_
      refine q_seq e14 ?_
      refine q_region e15 rfl ?_
      refine q_op (dst := some 37) rfl (fun _ ho => ok_move ho (.tmp rfl)) ?_
      obtain ⟨p10, hp10, h⟩ := bindo h
      refine q_op (dst := some 38) rfl (fun _ ho => ok_nilCheck_p ho (.tmp rfl) hp10) ?_
      refine q_op (dst := some 39) rfl (fun _ ho => ok_fieldAddr_s ho fi53_4 (by decide) (.tmp rfl) rfl) ?_
      obtain ⟨p11, hp11, h⟩ := bindo h
      refine q_op (dst := none) rfl (fun _ ho => ok_store_s (v := (.bool true)) ho sz4 (.tmp rfl) rfl (.bool _) rfl hp11) ?_
      refine hr_region_end ?_
      try dsimp only [HAct.put, List.set_cons_zero, List.set_cons_succ]
      refine q_seq e16 ?_
      refine q_region e17 rfl ?_
      refine q_op (dst := some 4) rfl (fun _ ho => ok_assign ho (.bool _)) ?_
      refine hr_region_end ?_
      try dsimp only [HAct.put, List.set_cons_zero, List.set_cons_succ]
      cases h
      exact q_ret e18 at_.at_ rfl (res1 rfl rfl) ⟨rfl, rfl⟩
    · refine q_cond_f e13 (.tmp rfl) (decide_eq_false hc9) ?_
      refine q_skipc e19 ?_
      refine q_seq e20 ?_
      refine q_region e21 rfl ?_
      refine q_op (dst := some 40) rfl (fun _ ho => ok_move ho (.tmp rfl)) ?_
      refine q_op (dst := some 41) rfl (fun _ ho => ok_move ho (.tmp rfl)) ?_
      obtain ⟨p12, hp12, h⟩ := bindo h
      refine q_op (dst := some 42) rfl (fun _ ho => ok_nilCheck_p ho (.tmp rfl) hp12) ?_
      refine q_op (dst := some 43) rfl (fun _ ho => ok_fieldAddr_s ho fi53_1 (by decide) (.tmp rfl) rfl) ?_
      try dsimp only [HAct.put, List.set_cons_zero, List.set_cons_succ]
      obtain ⟨p13, hp13, h⟩ := bindo h
      refine q_op (dst := some 44) rfl (fun _ ho => ok_load_s ho sc31 (.tmp rfl) rfl (ldSl_out hp13)) ?_
      refine q_op (dst := some 45) rfl (fun _ ho => ok_move ho (.tmp rfl)) ?_
      obtain ⟨p14, hp14, h⟩ := bindo h
      refine q_op (dst := some 46) rfl (fun _ ho => ok_append_str (s := p13) el31 ho rfl rfl tu9 (.tmp rfl) (.tmp rfl) hp14) ?_
      obtain ⟨p15, hp15, h⟩ := bindo h
      refine q_op (dst := some 47) rfl (fun _ ho => ok_nilCheck_p ho (.tmp rfl) hp15) ?_
      try dsimp only [HAct.put, List.set_cons_zero, List.set_cons_succ]
      refine q_op (dst := some 48) rfl (fun _ ho => ok_fieldAddr_s ho fi53_1 (by decide) (.tmp rfl) rfl) ?_
      obtain ⟨p16, hp16, h⟩ := bindo h
      refine q_op (dst := none) rfl (fun _ ho => ok_store_s (v := (Sl.hv (p14.1))) ho sz31 (.tmp rfl) rfl (.tmp rfl) rfl hp16) ?_
      refine hr_region_end ?_
      try dsimp only [HAct.put, List.set_cons_zero, List.set_cons_succ]
      refine q_seq e22 ?_
      refine q_region e23 rfl ?_
      refine q_op (dst := some 49) rfl (fun _ ho => ok_move ho (.tmp rfl)) ?_
      refine q_op (dst := some 50) rfl (fun _ ho => ok_move ho (.tmp rfl)) ?_
      obtain ⟨p17, hp17, h⟩ := bindo h
      refine q_op (dst := some 51) rfl (fun _ ho => ok_nilCheck_p ho (.tmp rfl) hp17) ?_
      refine q_op (dst := some 52) rfl (fun _ ho => ok_fieldAddr_s ho fi53_1 (by decide) (.tmp rfl) rfl) ?_
      try dsimp only [HAct.put, List.set_cons_zero, List.set_cons_succ]
      obtain ⟨p18, hp18, h⟩ := bindo h
      refine q_op (dst := some 53) rfl (fun _ ho => ok_load_s ho sc31 (.tmp rfl) rfl (ldSl_out hp18)) ?_
      obtain ⟨p19, hp19, h⟩ := bindo h
      refine q_op (dst := some 54) rfl (fun _ ho => ok_append_str (s := p18) el31 ho rfl rfl tu9 (.tmp rfl) (.str _) hp19) ?_
      obtain ⟨p20, hp20, h⟩ := bindo h
      refine q_op (dst := some 55) rfl (fun _ ho => ok_nilCheck_p ho (.tmp rfl) hp20) ?_
      refine q_op (dst := some 56) rfl (fun _ ho => ok_fieldAddr_s ho fi53_1 (by decide) (.tmp rfl) rfl) ?_
      try dsimp only [HAct.put, List.set_cons_zero, List.set_cons_succ]
      obtain ⟨p21, hp21, h⟩ := bindo h
      refine q_op (dst := none) rfl (fun _ ho => ok_store_s (v := (Sl.hv (p19.1))) ho sz31 (.tmp rfl) rfl (.tmp rfl) rfl hp21) ?_
      refine hr_region_end ?_
      try dsimp only [HAct.put, List.set_cons_zero, List.set_cons_succ]
      refine q_seq e24 ?_
      refine q_region e25 rfl ?_
      refine q_op (dst := some 4) rfl (fun _ ho => ok_assign ho (.bool _)) ?_
      refine hr_region_end ?_
      try dsimp only [HAct.put, List.set_cons_zero, List.set_cons_succ]
      cases h
      exact q_ret e26 at_.at_ rfl (res1 rfl rfl) ⟨rfl, rfl⟩
def J1 (k : Nat) (y0 : (Option HA)) (y1 : (List UInt8)) (y17 : Bool) (S : HS) : Option ((Bool) × HS) :=
  (if y17 = true then
  J2 k y0 y1 true S else
  (Option.bind (valid_Text.f k y1 S) fun p22 =>
  J2 k y0 y1 (!p22.1) p22.2))
theorem J1_snd {k : Nat}  {y0 : (Option HA)} {y1 : (List UInt8)} {y17 : Bool} {S : HS} {p : (Bool) × HS} {g2 g3 g4 g5 g6 g7 g8 g9 g10 g11 g12 g13 g14 g15 g16 g18 g19 g20 g21 g22 g23 g24 g25 g26 g27 g28 g29 g30 g31 g32 g33 g34 g35 g36 g37 g38 g39 g40 g41 g42 g43 g44 g45 g46 g47 g48 g49 g50 g51 g52 g53 g54 g55 g56 : HV} (h : J1 k y0 y1 y17 S = some p) : HRun Try.prog base W0 β0 10 none [.inRegion r4 [13, 14, 15, 16, 17], .code c5, .code c10] ⟨[(.ptr y0), (.str y1), g2, g3, g4, g5, g6, g7, g8, g9, g10, g11, g12, g13, g14, g15, g16, (.bool y17), g18, g19, g20, g21, g22, g23, g24, g25, g26, g27, g28, g29, g30, g31, g32, g33, g34, g35, g36, g37, g38, g39, g40, g41, g42, g43, g44, g45, g46, g47, g48, g49, g50, g51, g52, g53, g54, g55, g56], []⟩ S (fun v S1 => v = (.bool p.1) ∧ S1 = p.2) := by
  unfold J1 at h
  refine q_op (dst := some 18) rfl (fun _ ho => ok_move ho (.tmp rfl)) ?_
  rcases ifc h with ⟨hc3, h⟩ | ⟨hc3, h⟩
  · refine q_skip (dst := some 19) (t := 18) rfl rfl rfl hc3 ?_
    refine q_skip (dst := some 20) (t := 18) rfl rfl rfl hc3 ?_
    try dsimp only [HAct.put, List.set_cons_zero, List.set_cons_succ]
    refine q_skip (dst := some 21) (t := 18) rfl rfl rfl hc3 ?_
    refine q_op (dst := some 22) rfl (fun _ ho => ok_pick_tt ho (.tmp rfl) hc3 (.bool _)) ?_
    refine hr_region_end ?_
    try dsimp only [HAct.put, List.set_cons_zero, List.set_cons_succ]
    try dsimp only [HAct.put, List.set_cons_zero, List.set_cons_succ]
    exact J2_snd  h
  · refine q_op_g (t := 18) (dst := some 19) rfl rfl rfl (bfalse hc3) (fun _ ho => ok_move ho (.tmp rfl)) ?_
    obtain ⟨p22, hp22, h⟩ := bindo h
    refine q_call_g (t := 18) (dst := some 20) rfl rfl rfl (bfalse hc3) (.func _) (.cons (.tmp rfl) Evs.nil) (HInv.static valid_Text.at_ valid_Text.body (valid_Text.snd  hp22)) ?_
    rintro _ _ ⟨rfl, rfl⟩
    try dsimp only [HAct.put, List.set_cons_zero, List.set_cons_succ]
    refine q_op_g (t := 18) (dst := some 21) rfl rfl rfl (bfalse hc3) (fun _ ho => ok_not ho (.tmp rfl)) ?_
    refine q_op (dst := some 22) rfl (fun _ ho => ok_pick_ff ho (.tmp rfl) (bfalse hc3) (.tmp rfl)) ?_
    refine hr_region_end ?_
    try dsimp only [HAct.put, List.set_cons_zero, List.set_cons_succ]
    try dsimp only [HAct.put, List.set_cons_zero, List.set_cons_succ]
    exact J2_snd  h
def J0 (k : Nat) (y0 : (Option HA)) (y1 : (List UInt8)) (y12 : Bool) (S : HS) : Option ((Bool) × HS) :=
  (if y12 = true then
  J1 k y0 y1 true S else
  J1 k y0 y1 (decide ((List.length y1 : Int) > 510)) S)
theorem J0_snd {k : Nat}  {y0 : (Option HA)} {y1 : (List UInt8)} {y12 : Bool} {S : HS} {p : (Bool) × HS} {g2 g3 g4 g5 g6 g7 g8 g9 g10 g11 g13 g14 g15 g16 g17 g18 g19 g20 g21 g22 g23 g24 g25 g26 g27 g28 g29 g30 g31 g32 g33 g34 g35 g36 g37 g38 g39 g40 g41 g42 g43 g44 g45 g46 g47 g48 g49 g50 g51 g52 g53 g54 g55 g56 : HV} (h : J0 k y0 y1 y12 S = some p) : HRun Try.prog base W0 β0 10 none [.inRegion r4 [8, 9, 10, 11, 12, 13, 14, 15, 16, 17], .code c5, .code c10] ⟨[(.ptr y0), (.str y1), g2, g3, g4, g5, g6, g7, g8, g9, g10, g11, (.bool y12), g13, g14, g15, g16, g17, g18, g19, g20, g21, g22, g23, g24, g25, g26, g27, g28, g29, g30, g31, g32, g33, g34, g35, g36, g37, g38, g39, g40, g41, g42, g43, g44, g45, g46, g47, g48, g49, g50, g51, g52, g53, g54, g55, g56], []⟩ S (fun v S1 => v = (.bool p.1) ∧ S1 = p.2) := by
  unfold J0 at h
  refine q_op (dst := some 13) rfl (fun _ ho => ok_move ho (.tmp rfl)) ?_
  rcases ifc h with ⟨hc2, h⟩ | ⟨hc2, h⟩
  · refine q_skip (dst := some 14) (t := 13) rfl rfl rfl hc2 ?_
    refine q_skip (dst := some 15) (t := 13) rfl rfl rfl hc2 ?_
    refine q_skip (dst := some 16) (t := 13) rfl rfl rfl hc2 ?_
    try dsimp only [HAct.put, List.set_cons_zero, List.set_cons_succ]
    refine q_op (dst := some 17) rfl (fun _ ho => ok_pick_tt ho (.tmp rfl) hc2 (.bool _)) ?_
    try dsimp only [HAct.put, List.set_cons_zero, List.set_cons_succ]
    exact J1_snd  h
  · refine q_op_g (t := 13) (dst := some 14) rfl rfl rfl (bfalse hc2) (fun _ ho => ok_move ho (.tmp rfl)) ?_
    refine q_op_g (t := 13) (dst := some 15) rfl rfl rfl (bfalse hc2) (fun _ ho => ok_len_str ho rfl tu9 (.tmp rfl)) ?_
    refine q_op_g (t := 13) (dst := some 16) rfl rfl rfl (bfalse hc2) (fun _ ho => ok_ibin ho (.tmp rfl) (.int _ _) rfl) ?_
    try dsimp only [HAct.put, List.set_cons_zero, List.set_cons_succ]
    refine q_op (dst := some 17) rfl (fun _ ho => ok_pick_ff ho (.tmp rfl) (bfalse hc2) (.tmp rfl)) ?_
    try dsimp only [HAct.put, List.set_cons_zero, List.set_cons_succ]
    exact J1_snd  h
def f (k : Nat) (x0 : (Option HA)) (x1 : (List UInt8)) (S : HS) : Option ((Bool) × HS) :=
  (if (Option.isNone x0) = true then
  J0 k x0 x1 true S else
  (Option.bind (x0) fun p23 =>
  (Option.bind (HS.ldB S (HA.fld p23 4)) fun p24 =>
  J0 k x0 x1 p24 S)))
theorem snd {k : Nat} {x0 : (Option HA)} {x1 : (List UInt8)} {S : HS}  {p : (Bool) × HS} (h : f k x0 x1 S = some p) : HCall Try.prog base W0 β0 10 [(.ptr x0), (.str x1)] S (fun v S1 => v = (.bool p.1) ∧ S1 = p.2) := by
  unfold f at h
  refine HCall.of_run at_.at_ body ?_
  show HRun Try.prog base W0 β0 10 none [.code c0] ⟨[(.ptr x0), (.str x1), .tup [], .tup [], .tup [], .tup [], .tup [], .tup [], .tup [], .tup [], .tup [], .tup [], .tup [], .tup [], .tup [], .tup [], .tup [], .tup [], .tup [], .tup [], .tup [], .tup [], .tup [], .tup [], .tup [], .tup [], .tup [], .tup [], .tup [], .tup [], .tup [], .tup [], .tup [], .tup [], .tup [], .tup [], .tup [], .tup [], .tup [], .tup [], .tup [], .tup [], .tup [], .tup [], .tup [], .tup [], .tup [], .tup [], .tup [], .tup [], .tup [], .tup [], .tup [], .tup [], .tup [], .tup [], .tup []], []⟩ S _
  refine q_seq e0 ?_
  refine q_region e1 rfl ?_
  refine q_op (dst := some 4) rfl (fun _ ho => ok_assign ho (.bool _)) ?_
  refine hr_region_end ?_
  try dsimp only [HAct.put, List.set_cons_zero, List.set_cons_succ]
  refine q_seq e2 ?_
  refine q_seq e3 ?_
  refine q_region e4 rfl ?_
  refine q_op (dst := some 5) rfl (fun _ ho => ok_move ho (.tmp rfl)) ?_
  refine q_op (dst := some 6) rfl (fun _ ho => ok_nil_ptr ho tu25 (.tmp rfl) (.inl ⟨rfl, rfl⟩)) ?_
  refine q_op (dst := some 7) rfl (fun _ ho => ok_move ho (.tmp rfl)) ?_
  rcases ifc h with ⟨hc1, h⟩ | ⟨hc1, h⟩
  · refine q_skip (dst := some 8) (t := 7) rfl rfl rfl hc1 ?_
    try dsimp only [HAct.put, List.set_cons_zero, List.set_cons_succ]
    refine q_skip (dst := some 9) (t := 7) rfl rfl rfl hc1 ?_
    refine q_skip (dst := some 10) (t := 7) rfl rfl rfl hc1 ?_
    refine q_skip (dst := some 11) (t := 7) rfl rfl rfl hc1 ?_
    refine q_op (dst := some 12) rfl (fun _ ho => ok_pick_tt ho (.tmp rfl) hc1 (.bool _)) ?_
    try dsimp only [HAct.put, List.set_cons_zero, List.set_cons_succ]
    try dsimp only [HAct.put, List.set_cons_zero, List.set_cons_succ]
    exact J0_snd  h
  · refine q_op_g (t := 7) (dst := some 8) rfl rfl rfl (bfalse hc1) (fun _ ho => ok_move ho (.tmp rfl)) ?_
    try dsimp only [HAct.put, List.set_cons_zero, List.set_cons_succ]
    obtain ⟨p23, hp23, h⟩ := bindo h
    refine q_op_g (t := 7) (dst := some 9) rfl rfl rfl (bfalse hc1) (fun _ ho => ok_nilCheck_p ho (.tmp rfl) hp23) ?_
    refine q_op_g (t := 7) (dst := some 10) rfl rfl rfl (bfalse hc1) (fun _ ho => ok_fieldAddr_s ho fi53_4 (by decide) (.tmp rfl) rfl) ?_
    obtain ⟨p24, hp24, h⟩ := bindo h
    refine q_op_g (t := 7) (dst := some 11) rfl rfl rfl (bfalse hc1) (fun _ ho => ok_load_s ho sc4 (.tmp rfl) rfl (ldB_out hp24)) ?_
    refine q_op (dst := some 12) rfl (fun _ ho => ok_pick_ff ho (.tmp rfl) (bfalse hc1) (.tmp rfl)) ?_
    try dsimp only [HAct.put, List.set_cons_zero, List.set_cons_succ]
    try dsimp only [HAct.put, List.set_cons_zero, List.set_cons_succ]
    exact J0_snd  h
end
end sendq_Queue_Push
namespace sendq_torn
abbrev id : Nat := 21
theorem at_ : FnAt Try.prog 21 Try.f21 := ⟨Try.func21, by kernel_rfl⟩
noncomputable def c0 : Code := (Try.f21.body).getD .skip
noncomputable def c1 : Code := match c0 with | .seq x _ => x | _ => .skip
noncomputable def c2 : Code := match c0 with | .seq _ x => x | _ => .skip
noncomputable def c3 : Code := match c2 with | .seq x _ => x | _ => .skip
noncomputable def c4 : Code := match c3 with | .seq x _ => x | _ => .skip
noncomputable def c5 : Code := match c3 with | .seq _ x => x | _ => .skip
noncomputable def c6 : Code := match c5 with | .cond _ x _ => x | _ => .skip
noncomputable def c7 : Code := match c6 with | .seq x _ => x | _ => .skip
noncomputable def c8 : Code := match c6 with | .seq _ x => x | _ => .skip
noncomputable def c9 : Code := match c5 with | .cond _ _ x => x | _ => .skip
noncomputable def c10 : Code := match c2 with | .seq _ x => x | _ => .skip
noncomputable def c11 : Code := match c10 with | .seq x _ => x | _ => .skip
noncomputable def c12 : Code := match c10 with | .seq _ x => x | _ => .skip
noncomputable def c13 : Code := match c12 with | .seq x _ => x | _ => .skip
noncomputable def c14 : Code := match c13 with | .seq x _ => x | _ => .skip
noncomputable def c15 : Code := match c13 with | .seq _ x => x | _ => .skip
noncomputable def c16 : Code := match c15 with | .block _ x => x | _ => .skip
noncomputable def c17 : Code := match c16 with | .loop x => x | _ => .skip
noncomputable def c18 : Code := match c17 with | .seq x _ => x | _ => .skip
noncomputable def c19 : Code := match c18 with | .seq x _ => x | _ => .skip
noncomputable def c20 : Code := match c18 with | .seq _ x => x | _ => .skip
noncomputable def c21 : Code := match c20 with | .cond _ x _ => x | _ => .skip
noncomputable def c22 : Code := match c20 with | .cond _ _ x => x | _ => .skip
noncomputable def c23 : Code := match c17 with | .seq _ x => x | _ => .skip
noncomputable def c24 : Code := match c23 with | .seq x _ => x | _ => .skip
noncomputable def c25 : Code := match c24 with | .block _ x => x | _ => .skip
noncomputable def c26 : Code := match c25 with | .seq x _ => x | _ => .skip
noncomputable def c27 : Code := match c26 with | .seq x _ => x | _ => .skip
noncomputable def c28 : Code := match c26 with | .seq _ x => x | _ => .skip
noncomputable def c29 : Code := match c28 with | .cond _ x _ => x | _ => .skip
noncomputable def c30 : Code := match c29 with | .seq x _ => x | _ => .skip
noncomputable def c31 : Code := match c29 with | .seq _ x => x | _ => .skip
noncomputable def c32 : Code := match c28 with | .cond _ _ x => x | _ => .skip
noncomputable def c33 : Code := match c25 with | .seq _ x => x | _ => .skip
noncomputable def c34 : Code := match c33 with | .seq x _ => x | _ => .skip
noncomputable def c35 : Code := match c33 with | .seq _ x => x | _ => .skip
noncomputable def c36 : Code := match c35 with | .seq x _ => x | _ => .skip
noncomputable def c37 : Code := match c36 with | .seq x _ => x | _ => .skip
noncomputable def c38 : Code := match c36 with | .seq _ x => x | _ => .skip
noncomputable def c39 : Code := match c38 with | .cond _ x _ => x | _ => .skip
noncomputable def c40 : Code := match c38 with | .cond _ _ x => x | _ => .skip
noncomputable def c41 : Code := match c35 with | .seq _ x => x | _ => .skip
noncomputable def c42 : Code := match c41 with | .seq x _ => x | _ => .skip
noncomputable def c43 : Code := match c41 with | .seq _ x => x | _ => .skip
noncomputable def c44 : Code := match c43 with | .cond _ x _ => x | _ => .skip
noncomputable def c45 : Code := match c44 with | .seq x _ => x | _ => .skip
noncomputable def c46 : Code := match c44 with | .seq _ x => x | _ => .skip
noncomputable def c47 : Code := match c43 with | .cond _ _ x => x | _ => .skip
noncomputable def c48 : Code := match c23 with | .seq _ x => x | _ => .skip
noncomputable def c49 : Code := match c12 with | .seq _ x => x | _ => .skip
noncomputable def c50 : Code := match c49 with | .seq x _ => x | _ => .skip
noncomputable def c51 : Code := match c49 with | .seq _ x => x | _ => .skip
theorem e0 : c0 = .seq c1 c2 := by kernel_rfl
noncomputable def r1 : Array Oper := match c1 with | .region _ x _ => x | _ => #[]
theorem e1 : c1 = .region 0 r1 false := by kernel_rfl
theorem e2 : c2 = .seq c3 c10 := by kernel_rfl
theorem e3 : c3 = .seq c4 c5 := by kernel_rfl
noncomputable def r4 : Array Oper := match c4 with | .region _ x _ => x | _ => #[]
theorem e4 : c4 = .region 1 r4 false := by kernel_rfl
theorem e5 : c5 = .cond (.tmp 11) c6 c9 := by kernel_rfl
theorem e6 : c6 = .seq c7 c8 := by kernel_rfl
noncomputable def r7 : Array Oper := match c7 with | .region _ x _ => x | _ => #[]
theorem e7 : c7 = .region 2 r7 false := by kernel_rfl
theorem e8 : c8 = .ret := by kernel_rfl
theorem e9 : c9 = .skip := by kernel_rfl
theorem e10 : c10 = .seq c11 c12 := by kernel_rfl
noncomputable def r11 : Array Oper := match c11 with | .region _ x _ => x | _ => #[]
theorem e11 : c11 = .region 3 r11 false := by kernel_rfl
theorem e12 : c12 = .seq c13 c49 := by kernel_rfl
theorem e13 : c13 = .seq c14 c15 := by kernel_rfl
noncomputable def r14 : Array Oper := match c14 with | .region _ x _ => x | _ => #[]
theorem e14 : c14 = .region 4 r14 false := by kernel_rfl
theorem e15 : c15 = .block 0 c16 := by kernel_rfl
theorem e16 : c16 = .loop c17 := by kernel_rfl
theorem e17 : c17 = .seq c18 c23 := by kernel_rfl
theorem e18 : c18 = .seq c19 c20 := by kernel_rfl
noncomputable def r19 : Array Oper := match c19 with | .region _ x _ => x | _ => #[]
theorem e19 : c19 = .region 5 r19 false := by kernel_rfl
theorem e20 : c20 = .cond (.tmp 22) c21 c22 := by kernel_rfl
theorem e21 : c21 = .skip := by kernel_rfl
theorem e22 : c22 = .exit 0 := by kernel_rfl
theorem e23 : c23 = .seq c24 c48 := by kernel_rfl
theorem e24 : c24 = .block 1 c25 := by kernel_rfl
theorem e25 : c25 = .seq c26 c33 := by kernel_rfl
theorem e26 : c26 = .seq c27 c28 := by kernel_rfl
noncomputable def r27 : Array Oper := match c27 with | .region _ x _ => x | _ => #[]
theorem e27 : c27 = .region 7 r27 false := by kernel_rfl
theorem e28 : c28 = .cond (.tmp 26) c29 c32 := by kernel_rfl
theorem e29 : c29 = .seq c30 c31 := by kernel_rfl
noncomputable def r30 : Array Oper := match c30 with | .region _ x _ => x | _ => #[]
theorem e30 : c30 = .region 8 r30 false := by kernel_rfl
theorem e31 : c31 = .ret := by kernel_rfl
theorem e32 : c32 = .skip := by kernel_rfl
theorem e33 : c33 = .seq c34 c35 := by kernel_rfl
noncomputable def r34 : Array Oper := match c34 with | .region _ x _ => x | _ => #[]
theorem e34 : c34 = .region 9 r34 false := by kernel_rfl
theorem e35 : c35 = .seq c36 c41 := by kernel_rfl
theorem e36 : c36 = .seq c37 c38 := by kernel_rfl
noncomputable def r37 : Array Oper := match c37 with | .region _ x _ => x | _ => #[]
theorem e37 : c37 = .region 10 r37 false := by kernel_rfl
theorem e38 : c38 = .cond (.tmp 33) c39 c40 := by kernel_rfl
theorem e39 : c39 = .exit 1 := by kernel_rfl
theorem e40 : c40 = .skip := by kernel_rfl
theorem e41 : c41 = .seq c42 c43 := by kernel_rfl
noncomputable def r42 : Array Oper := match c42 with | .region _ x _ => x | _ => #[]
theorem e42 : c42 = .region 11 r42 false := by kernel_rfl
theorem e43 : c43 = .cond (.tmp 35) c44 c47 := by kernel_rfl
theorem e44 : c44 = .seq c45 c46 := by kernel_rfl
noncomputable def r45 : Array Oper := match c45 with | .region _ x _ => x | _ => #[]
theorem e45 : c45 = .region 12 r45 false := by kernel_rfl
theorem e46 : c46 = .ret := by kernel_rfl
theorem e47 : c47 = .skip := by kernel_rfl
noncomputable def r48 : Array Oper := match c48 with | .region _ x _ => x | _ => #[]
theorem e48 : c48 = .region 6 r48 false := by kernel_rfl
theorem e49 : c49 = .seq c50 c51 := by kernel_rfl
noncomputable def r50 : Array Oper := match c50 with | .region _ x _ => x | _ => #[]
theorem e50 : c50 = .region 13 r50 false := by kernel_rfl
theorem e51 : c51 = .ret := by kernel_rfl
theorem body : Try.f21.body = some c0 := by kernel_rfl
section
variable {base : Nat} {W0 : World} {β0 : Bt}
def J1 (k : Nat) (rec0 : Sl → Int → Int → HS → Option ((Int) × HS)) (y0 : Sl) (y7 : Int) (y8 : Int) (S : HS) : Option ((Int) × HS) :=
  rec0 y0 y7 (w64 (y8 + 1)) S
theorem J1_snd {k : Nat} {rec0 : Sl → Int → Int → HS → Option ((Int) × HS)} (hrec0 : ∀ ⦃y0 : Sl⦄ ⦃y7 : Int⦄ ⦃y8 : Int⦄ ⦃S : HS⦄ ⦃p : (Int) × HS⦄ ⦃g1 g2 g3 g4 g5 g6 g9 g10 g11 g12 g13 g14 g15 g16 g17 g18 g19 g20 g21 g22 g23 g24 g25 g26 g27 g28 g29 g30 g31 g32 g33 g34 g35 g36 g37 g38 g39 g40 g41 g42 : HV⦄, rec0 y0 y7 y8 S = some p → HRun Try.prog base W0 β0 21 none [.inLoop c17, .inBlock 0, .code c49] ⟨[(Sl.hv y0), g1, g2, g3, g4, g5, g6, (.int .i64 y7), (.int .i64 y8), g9, g10, g11, g12, g13, g14, g15, g16, g17, g18, g19, g20, g21, g22, g23, g24, g25, g26, g27, g28, g29, g30, g31, g32, g33, g34, g35, g36, g37, g38, g39, g40, g41, g42], []⟩ S (fun v S1 => v = (.int .i64 p.1) ∧ S1 = p.2)) {y0 : Sl} {y7 : Int} {y8 : Int} {S : HS} {p : (Int) × HS} {g1 g2 g3 g4 g5 g6 g9 g10 g11 g12 g13 g14 g15 g16 g17 g18 g19 g20 g21 g22 g23 g24 g25 g26 g27 g28 g29 g30 g31 g32 g33 g34 g35 g36 g37 g38 g39 g40 g41 g42 : HV} (h : J1 k rec0 y0 y7 y8 S = some p) : HRun Try.prog base W0 β0 21 none [.code c48, .inLoop c17, .inBlock 0, .code c49] ⟨[(Sl.hv y0), g1, g2, g3, g4, g5, g6, (.int .i64 y7), (.int .i64 y8), g9, g10, g11, g12, g13, g14, g15, g16, g17, g18, g19, g20, g21, g22, g23, g24, g25, g26, g27, g28, g29, g30, g31, g32, g33, g34, g35, g36, g37, g38, g39, g40, g41, g42], []⟩ S (fun v S1 => v = (.int .i64 p.1) ∧ S1 = p.2) := by
  unfold J1 at h
  refine q_region e48 rfl ?_
  refine q_op (dst := some 23) rfl (fun _ ho => ok_move ho (.tmp rfl)) ?_
  refine q_op (dst := some 24) rfl (fun _ ho => ok_ibin ho (.tmp rfl) (.int _ _) rfl) ?_
  refine q_op (dst := some 8) rfl (fun _ ho => ok_assign ho (.tmp rfl)) ?_
  refine hr_region_end ?_
  try dsimp only [HAct.put, List.set_cons_zero, List.set_cons_succ]
  try dsimp only [HAct.put, List.set_cons_zero, List.set_cons_succ]
  exact hrec0 h
def L0 (k : Nat) : Nat → Sl → Int → Int → HS → Option ((Int) × HS)
  | 0, _, _, _, _ => none
  | n + 1, y0, y7, y8, S =>
    (if y8 < (Sl.len y0 : Int) then
    (if y7 = 0 then
    some (0, S) else
    (Option.bind (HS.idx S y0 y8 1) fun p4 =>
    (Option.bind (HS.ldI S .u8 p4) fun p5 =>
    (if p5 = 10 then
    J1 k (L0 k n) y0 (w64 (y7 - 1)) y8 S else
    (if (w64 (y7 - 1)) = 0 then
    (Option.bind (HS.cut S y0 (w64 (y8 + 1)) (Sl.len y0 : Int) 1) fun p8 =>
    (Option.bind (HS.text S p8) fun p9 =>
    (Option.bind (strings_IndexByte.f p9 10) fun p10 =>
    some ((w64 (p10 + 1)), S)))) else
    J1 k (L0 k n) y0 (w64 (y7 - 1)) y8 S))))) else
    some (0, S))
theorem L0_snd {k : Nat}  : ∀ {n : Nat} ⦃y0 : Sl⦄ ⦃y7 : Int⦄ ⦃y8 : Int⦄ ⦃S : HS⦄ ⦃p : (Int) × HS⦄ ⦃g1 g2 g3 g4 g5 g6 g9 g10 g11 g12 g13 g14 g15 g16 g17 g18 g19 g20 g21 g22 g23 g24 g25 g26 g27 g28 g29 g30 g31 g32 g33 g34 g35 g36 g37 g38 g39 g40 g41 g42 : HV⦄, L0 k n y0 y7 y8 S = some p → HRun Try.prog base W0 β0 21 none [.inLoop c17, .inBlock 0, .code c49] ⟨[(Sl.hv y0), g1, g2, g3, g4, g5, g6, (.int .i64 y7), (.int .i64 y8), g9, g10, g11, g12, g13, g14, g15, g16, g17, g18, g19, g20, g21, g22, g23, g24, g25, g26, g27, g28, g29, g30, g31, g32, g33, g34, g35, g36, g37, g38, g39, g40, g41, g42], []⟩ S (fun v S1 => v = (.int .i64 p.1) ∧ S1 = p.2) := by
  intro n
  induction n with
  | zero => intro _ _ _ _ _ _ _ _ _ _ _ _ _ _ _ _ _ _ _ _ _ _ _ _ _ _ _ _ _ _ _ _ _ _ _ _ _ _ _ _ _ _ _ _ _ h; cases h
  | succ n ih =>
    intro y0 y7 y8 S p g1 g2 g3 g4 g5 g6 g9 g10 g11 g12 g13 g14 g15 g16 g17 g18 g19 g20 g21 g22 g23 g24 g25 g26 g27 g28 g29 g30 g31 g32 g33 g34 g35 g36 g37 g38 g39 g40 g41 g42 h
    simp only [L0] at h
    refine hr_inLoop ?_
    refine q_seq e17 ?_
    refine q_seq e18 ?_
    refine q_region e19 rfl ?_
    refine q_op (dst := some 19) rfl (fun _ ho => ok_move ho (.tmp rfl)) ?_
    refine q_op (dst := some 20) rfl (fun _ ho => ok_move ho (.tmp rfl)) ?_
    refine q_op (dst := some 21) rfl (fun _ ho => ok_len_sl (q := Sl.a y0) (n := Sl.len y0) (z := Sl.cap y0) ho rfl tu31 (.tmp rfl)) ?_
    refine q_op (dst := some 22) rfl (fun _ ho => ok_ibin ho (.tmp rfl) (.tmp rfl) rfl) ?_
    refine hr_region_end ?_
    try dsimp only [HAct.put, List.set_cons_zero, List.set_cons_succ]
    rcases ifc h with ⟨hc2, h⟩ | ⟨hc2, h⟩
    · refine q_cond_t e20 (.tmp rfl) (decide_eq_true hc2) ?_
      refine q_skipc e21 ?_
      refine q_seq e23 ?_
      refine q_block e24 ?_
      refine q_seq e25 ?_
      refine q_seq e26 ?_
      refine q_region e27 rfl ?_
      refine q_op (dst := some 25) rfl (fun _ ho => ok_move ho (.tmp rfl)) ?_
      refine q_op (dst := some 26) rfl (fun _ ho => ok_ibin ho (.tmp rfl) (.int _ _) rfl) ?_
      refine hr_region_end ?_
      try dsimp only [HAct.put, List.set_cons_zero, List.set_cons_succ]
      rcases ifc h with ⟨hc3, h⟩ | ⟨hc3, h⟩
      · refine q_cond_t e28 (.tmp rfl) (decide_eq_true hc3) ?_
        refine q_seq e29 ?_
        refine q_region e30 rfl ?_
        refine q_op (dst := some 6) rfl (fun _ ho => ok_assign ho (.int _ _)) ?_
        refine hr_region_end ?_
        try dsimp only [HAct.put, List.set_cons_zero, List.set_cons_succ]
        cases h
        exact q_ret e31 at_.at_ rfl (res1 rfl rfl) ⟨rfl, rfl⟩
      · refine q_cond_f e28 (.tmp rfl) (decide_eq_false hc3) ?_
        refine q_skipc e32 ?_
        refine q_seq e33 ?_
        refine q_region e34 rfl ?_
        refine q_op (dst := some 27) rfl (fun _ ho => ok_move ho (.tmp rfl)) ?_
        refine q_op (dst := some 28) rfl (fun _ ho => ok_ibin ho (.tmp rfl) (.int _ _) rfl) ?_
        refine q_op (dst := some 7) rfl (fun _ ho => ok_assign ho (.tmp rfl)) ?_
        refine hr_region_end ?_
        try dsimp only [HAct.put, List.set_cons_zero, List.set_cons_succ]
        refine q_seq e35 ?_
        refine q_seq e36 ?_
        refine q_region e37 rfl ?_
        refine q_op (dst := some 29) rfl (fun _ ho => ok_move ho (.tmp rfl)) ?_
        refine q_op (dst := some 30) rfl (fun _ ho => ok_move ho (.tmp rfl)) ?_
        obtain ⟨p4, hp4, h⟩ := bindo h
        refine q_op (dst := some 31) rfl (fun _ ho => ok_indexAddr (s := y0) ho tu31 sz5 (.tmp rfl) (.tmp rfl) hp4) ?_
        obtain ⟨p5, hp5, h⟩ := bindo h
        refine q_op (dst := some 32) rfl (fun _ ho => ok_load_s ho sc5 (.tmp rfl) rfl (ldI_out hp5)) ?_
        try dsimp only [HAct.put, List.set_cons_zero, List.set_cons_succ]
        refine q_op (dst := some 33) rfl (fun _ ho => ok_ibin ho (.tmp rfl) (.int _ _) rfl) ?_
        refine hr_region_end ?_
        try dsimp only [HAct.put, List.set_cons_zero, List.set_cons_succ]
        rcases ifc h with ⟨hc6, h⟩ | ⟨hc6, h⟩
        · refine q_cond_t e38 (.tmp rfl) (decide_eq_true hc6) ?_
          refine q_exit e39 rfl ?_
          try dsimp only [HAct.put, List.set_cons_zero, List.set_cons_succ]
          exact J1_snd ih h
        · refine q_cond_f e38 (.tmp rfl) (decide_eq_false hc6) ?_
          refine q_skipc e40 ?_
          refine q_seq e41 ?_
          refine q_region e42 rfl ?_
          refine q_op (dst := some 34) rfl (fun _ ho => ok_move ho (.tmp rfl)) ?_
          refine q_op (dst := some 35) rfl (fun _ ho => ok_ibin ho (.tmp rfl) (.int _ _) rfl) ?_
          refine hr_region_end ?_
          try dsimp only [HAct.put, List.set_cons_zero, List.set_cons_succ]
          rcases ifc h with ⟨hc7, h⟩ | ⟨hc7, h⟩
          · refine q_cond_t e43 (.tmp rfl) (decide_eq_true hc7) ?_
            refine q_seq e44 ?_
            refine q_region e45 rfl ?_
            refine q_op (dst := some 36) rfl (fun _ ho => ok_move ho (.tmp rfl)) ?_
            refine q_op (dst := some 37) rfl (fun _ ho => ok_move ho (.tmp rfl)) ?_
            refine q_op (dst := some 38) rfl (fun _ ho => ok_ibin ho (.tmp rfl) (.int _ _) rfl) ?_
            obtain ⟨p8, hp8, h⟩ := bindo h
            refine q_op (dst := some 39) rfl (fun _ ho => ok_slice (kl := .i64) (kh := .i64) (s := y0) (l := (w64 (y8 + 1))) (h := (Sl.len y0 : Int)) ho tu31 si5 (.tmp rfl) (.inr ⟨_, rfl, (.tmp rfl)⟩) (.inl ⟨rfl, rfl⟩) hp8) ?_
            try dsimp only [HAct.put, List.set_cons_zero, List.set_cons_succ]
            obtain ⟨p9, hp9, h⟩ := bindo h
            refine q_op (dst := some 40) rfl (fun _ ho => ok_str_of_bytes (s := p8) ho tu31 tu5 tu9 (.tmp rfl) hp9) ?_
            obtain ⟨p10, hp10, h⟩ := bindo h
            refine q_call (dst := some 41) rfl (.func _) (.cons (.tmp rfl) (.cons (.int _ _) Evs.nil)) (HInv.static strings_IndexByte.at_ strings_IndexByte.body (strings_IndexByte.snd  hp10)) ?_
            rintro _ _ ⟨rfl, rfl⟩
            refine q_op (dst := some 42) rfl (fun _ ho => ok_ibin ho (.tmp rfl) (.int _ _) rfl) ?_
            refine q_op (dst := some 6) rfl (fun _ ho => ok_assign ho (.tmp rfl)) ?_
            refine hr_region_end ?_
            try dsimp only [HAct.put, List.set_cons_zero, List.set_cons_succ]
            cases h
            exact q_ret e46 at_.at_ rfl (res1 rfl rfl) ⟨rfl, rfl⟩
          · refine q_cond_f e43 (.tmp rfl) (decide_eq_false hc7) ?_
            refine q_skipc e47 ?_
            refine hr_inBlock ?_
            try dsimp only [HAct.put, List.set_cons_zero, List.set_cons_succ]
            exact J1_snd ih h
    · refine q_cond_f e20 (.tmp rfl) (decide_eq_false hc2) ?_
      refine q_exit e22 rfl ?_
      refine q_seq e49 ?_
      refine q_region e50 rfl ?_
      refine q_op (dst := some 6) rfl (fun _ ho => ok_assign ho (.int _ _)) ?_
      refine hr_region_end ?_
      try dsimp only [HAct.put, List.set_cons_zero, List.set_cons_succ]
      cases h
      exact q_ret e51 at_.at_ rfl (res1 rfl rfl) ⟨rfl, rfl⟩
def f (k : Nat) (x0 : Sl) (x1 : Int) (x2 : Int) (S : HS) : Option ((Int) × HS) :=
  (if x2 ≤ x1 then
  some ((w64 (x1 - x2)), S) else
  L0 k k x0 (w64 (x2 - x1)) x1 S)
theorem snd {k : Nat} {x0 : Sl} {x1 : Int} {x2 : Int} {S : HS}  {p : (Int) × HS} (h : f k x0 x1 x2 S = some p) : HCall Try.prog base W0 β0 21 [(Sl.hv x0), (.int .i64 x1), (.int .i64 x2)] S (fun v S1 => v = (.int .i64 p.1) ∧ S1 = p.2) := by
  unfold f at h
  refine HCall.of_run at_.at_ body ?_
  show HRun Try.prog base W0 β0 21 none [.code c0] ⟨[(Sl.hv x0), (.int .i64 x1), (.int .i64 x2), .tup [], .tup [], .tup [], .tup [], .tup [], .tup [], .tup [], .tup [], .tup [], .tup [], .tup [], .tup [], .tup [], .tup [], .tup [], .tup [], .tup [], .tup [], .tup [], .tup [], .tup [], .tup [], .tup [], .tup [], .tup [], .tup [], .tup [], .tup [], .tup [], .tup [], .tup [], .tup [], .tup [], .tup [], .tup [], .tup [], .tup [], .tup [], .tup [], .tup []], []⟩ S _
  refine q_seq e0 ?_
  refine q_region e1 rfl ?_
  refine q_op (dst := some 6) rfl (fun _ ho => ok_assign ho (.int _ _)) ?_
  refine hr_region_end ?_
  try dsimp only [HAct.put, List.set_cons_zero, List.set_cons_succ]
  refine q_seq e2 ?_
  refine q_seq e3 ?_
  refine q_region e4 rfl ?_
  refine q_op (dst := some 9) rfl (fun _ ho => ok_move ho (.tmp rfl)) ?_
  refine q_op (dst := some 10) rfl (fun _ ho => ok_move ho (.tmp rfl)) ?_
  refine q_op (dst := some 11) rfl (fun _ ho => ok_ibin ho (.tmp rfl) (.tmp rfl) rfl) ?_
  refine hr_region_end ?_
  try dsimp only [HAct.put, List.set_cons_zero, List.set_cons_succ]
  rcases ifc h with ⟨hc1, h⟩ | ⟨hc1, h⟩
  · refine q_cond_t e5 (.tmp rfl) (decide_eq_true hc1) ?_
    refine q_seq e6 ?_
    refine q_region e7 rfl ?_
    refine q_op (dst := some 12) rfl (fun _ ho => ok_move ho (.tmp rfl)) ?_
    refine q_op (dst := some 13) rfl (fun _ ho => ok_move ho (.tmp rfl)) ?_
    refine q_op (dst := some 14) rfl (fun _ ho => ok_ibin ho (.tmp rfl) (.tmp rfl) rfl) ?_
    refine q_op (dst := some 6) rfl (fun _ ho => ok_assign ho (.tmp rfl)) ?_
    refine hr_region_end ?_
    try dsimp only [HAct.put, List.set_cons_zero, List.set_cons_succ]
    cases h
    exact q_ret e8 at_.at_ rfl (res1 rfl rfl) ⟨rfl, rfl⟩
  · refine q_cond_f e5 (.tmp rfl) (decide_eq_false hc1) ?_
    refine q_skipc e9 ?_
    refine q_seq e10 ?_
    refine q_region e11 rfl ?_
    refine q_op (dst := some 15) rfl (fun _ ho => ok_move ho (.tmp rfl)) ?_
    refine q_op (dst := some 16) rfl (fun _ ho => ok_move ho (.tmp rfl)) ?_
    refine q_op (dst := some 17) rfl (fun _ ho => ok_ibin ho (.tmp rfl) (.tmp rfl) rfl) ?_
    refine q_op (dst := some 7) rfl (fun _ ho => ok_assign ho (.tmp rfl)) ?_
    refine hr_region_end ?_
    try dsimp only [HAct.put, List.set_cons_zero, List.set_cons_succ]
    refine q_seq e12 ?_
    refine q_seq e13 ?_
    refine q_region e14 rfl ?_
    refine q_op (dst := some 18) rfl (fun _ ho => ok_move ho (.tmp rfl)) ?_
    refine q_op (dst := some 8) rfl (fun _ ho => ok_assign ho (.tmp rfl)) ?_
    refine hr_region_end ?_
    try dsimp only [HAct.put, List.set_cons_zero, List.set_cons_succ]
    refine q_block e15 ?_
    refine q_loop e16 ?_
    try dsimp only [HAct.put, List.set_cons_zero, List.set_cons_succ]
    exact L0_snd  h
end
end sendq_torn
namespace sendq_Queue_Drain
abbrev id : Nat := 9
theorem at_ : FnAt Try.prog 9 Try.f9 := ⟨Try.func9, by kernel_rfl⟩
noncomputable def c0 : Code := (Try.f9.body).getD .skip
noncomputable def c1 : Code := match c0 with | .seq x _ => x | _ => .skip
noncomputable def c2 : Code := match c0 with | .seq _ x => x | _ => .skip
noncomputable def c3 : Code := match c2 with | .seq x _ => x | _ => .skip
noncomputable def c4 : Code := match c3 with | .seq x _ => x | _ => .skip
noncomputable def c5 : Code := match c3 with | .seq _ x => x | _ => .skip
noncomputable def c6 : Code := match c5 with | .cond _ x _ => x | _ => .skip
noncomputable def c7 : Code := match c6 with | .seq x _ => x | _ => .skip
noncomputable def c8 : Code := match c6 with | .seq _ x => x | _ => .skip
noncomputable def c9 : Code := match c5 with | .cond _ _ x => x | _ => .skip
noncomputable def c10 : Code := match c2 with | .seq _ x => x | _ => .skip
noncomputable def c11 : Code := match c10 with | .seq x _ => x | _ => .skip
noncomputable def c12 : Code := match c10 with | .seq _ x => x | _ => .skip
noncomputable def c13 : Code := match c12 with | .seq x _ => x | _ => .skip
noncomputable def c14 : Code := match c12 with | .seq _ x => x | _ => .skip
noncomputable def c15 : Code := match c14 with | .seq x _ => x | _ => .skip
noncomputable def c16 : Code := match c14 with | .seq _ x => x | _ => .skip
noncomputable def c17 : Code := match c16 with | .seq x _ => x | _ => .skip
noncomputable def c18 : Code := match c16 with | .seq _ x => x | _ => .skip
noncomputable def c19 : Code := match c18 with | .seq x _ => x | _ => .skip
noncomputable def c20 : Code := match c18 with | .seq _ x => x | _ => .skip
noncomputable def c21 : Code := match c20 with | .seq x _ => x | _ => .skip
noncomputable def c22 : Code := match c20 with | .seq _ x => x | _ => .skip
noncomputable def c23 : Code := match c22 with | .seq x _ => x | _ => .skip
noncomputable def c24 : Code := match c22 with | .seq _ x => x | _ => .skip
theorem e0 : c0 = .seq c1 c2 := by kernel_rfl
noncomputable def r1 : Array Oper := match c1 with | .region _ x _ => x | _ => #[]
theorem e1 : c1 = .region 0 r1 false := by kernel_rfl
theorem e2 : c2 = .seq c3 c10 := by kernel_rfl
theorem e3 : c3 = .seq c4 c5 := by kernel_rfl
noncomputable def r4 : Array Oper := match c4 with | .region _ x _ => x | _ => #[]
theorem e4 : c4 = .region 1 r4 false := by kernel_rfl
theorem e5 : c5 = .cond (.tmp 7) c6 c9 := by kernel_rfl
theorem e6 : c6 = .seq c7 c8 := by kernel_rfl
noncomputable def r7 : Array Oper := match c7 with | .region _ x _ => x | _ => #[]
theorem e7 : c7 = .region 2 r7 false := by kernel_rfl
theorem e8 : c8 = .ret := by kernel_rfl
theorem e9 : c9 = .skip := by kernel_rfl
theorem e10 : c10 = .seq c11 c12 := by kernel_rfl
noncomputable def r11 : Array Oper := match c11 with | .region _ x _ => x | _ => #[]
theorem e11 : c11 = .region 3 r11 false := by kernel_rfl
theorem e12 : c12 = .seq c13 c14 := by kernel_rfl
noncomputable def r13 : Array Oper := match c13 with | .region _ x _ => x | _ => #[]
theorem e13 : c13 = .region 4 r13 false := by kernel_rfl
theorem e14 : c14 = .seq c15 c16 := by kernel_rfl
noncomputable def r15 : Array Oper := match c15 with | .region _ x _ => x | _ => #[]
theorem e15 : c15 = .region 5 r15 false := by kernel_rfl
theorem e16 : c16 = .seq c17 c18 := by kernel_rfl
noncomputable def r17 : Array Oper := match c17 with | .region _ x _ => x | _ => #[]
theorem e17 : c17 = .region 6 r17 true := by kernel_rfl
theorem e18 : c18 = .seq c19 c20 := by kernel_rfl
noncomputable def r19 : Array Oper := match c19 with | .region _ x _ => x | _ => #[]
theorem e19 : c19 = .region 7 r19 false := by kernel_rfl
theorem e20 : c20 = .seq c21 c22 := by kernel_rfl
noncomputable def r21 : Array Oper := match c21 with | .region _ x _ => x | _ => #[]
theorem e21 : c21 = .region 8 r21 false := by kernel_rfl
theorem e22 : c22 = .seq c23 c24 := by kernel_rfl
noncomputable def r23 : Array Oper := match c23 with | .region _ x _ => x | _ => #[]
theorem e23 : c23 = .region 9 r23 false := by kernel_rfl
theorem e24 : c24 = .ret := by kernel_rfl
theorem body : Try.f9.body = some c0 := by kernel_rfl
section
variable {base : Nat} {W0 : World} {β0 : Bt}
def f (k : Nat) (x0 : (Option HA)) (x1 : Int) (S : HS) : Option ((Sl) × HS) :=
  (if (Option.isNone x0) = true then
  some (Sl.nil, S) else
  (Option.bind (x0) fun p2 =>
  (Option.bind (HS.ldSl S (HA.fld p2 1)) fun p3 =>
  (Option.bind (HS.make S (mx 0 (mn x1 (Sl.len p3 : Int))) (mx 0 (mn x1 (Sl.len p3 : Int))) [(.int .u8 0)]) fun p4 =>
  (Option.bind (x0) fun p5 =>
  (Option.bind (HS.ldSl (p4.2) (HA.fld p5 1)) fun p6 =>
  (Option.bind (HS.rows (p4.2) p6 1) fun p7 =>
  (Option.bind (HS.over (p4.2) (p4.1) (List.take (Sl.len (p4.1)) p7) 1) fun p8 =>
  (Option.bind (x0) fun p9 =>
  (Option.bind (HS.ldSl p8 (HA.fld p9 1)) fun p10 =>
  (Option.bind (x0) fun p11 =>
  (Option.bind (HS.ldI p8 .i64 (HA.fld p11 2)) fun p12 =>
  (Option.bind (sendq_torn.f k p10 p12 (mx 0 (mn x1 (Sl.len p3 : Int))) p8) fun p13 =>
  (Option.bind (x0) fun p14 =>
  (Option.bind (HS.sets p13.2 (HA.fld p14 2) [(.int .i64 p13.1)]) fun p15 =>
  (Option.bind (x0) fun p16 =>
  (Option.bind (HS.ldSl p15 (HA.fld p16 1)) fun p17 =>
  (Option.bind (HS.cut p15 p17 (mx 0 (mn x1 (Sl.len p3 : Int))) (Sl.len p17 : Int) 1) fun p18 =>
  (Option.bind (HS.rows p15 p18 1) fun p19 =>
  (Option.bind (HS.app p15 Sl.nil p19 1) fun p20 =>
  (Option.bind (x0) fun p21 =>
  (Option.bind (HS.sets (p20.2) (HA.fld p21 1) [(Sl.hv (p20.1))]) fun p22 =>
  (Option.bind (x0) fun p23 =>
  (Option.bind (HS.ldI p22 .i64 (HA.fld p23 3)) fun p24 =>
  (Option.bind (x0) fun p25 =>
  (Option.bind (HS.sets p22 (HA.fld p25 3) [(.int .i64 (w64 (p24 + (mx 0 (mn x1 (Sl.len p3 : Int))))))]) fun p26 =>
  some ((p4.1), p26)))))))))))))))))))))))))))
theorem snd {k : Nat} {x0 : (Option HA)} {x1 : Int} {S : HS}  {p : (Sl) × HS} (h : f k x0 x1 S = some p) : HCall Try.prog base W0 β0 9 [(.ptr x0), (.int .i64 x1)] S (fun v S1 => v = (Sl.hv p.1) ∧ S1 = p.2) := by
  unfold f at h
  refine HCall.of_run at_.at_ body ?_
  show HRun Try.prog base W0 β0 9 none [.code c0] ⟨[(.ptr x0), (.int .i64 x1), .tup [], .tup [], .tup [], .tup [], .tup [], .tup [], .tup [], .tup [], .tup [], .tup [], .tup [], .tup [], .tup [], .tup [], .tup [], .tup [], .tup [], .tup [], .tup [], .tup [], .tup [], .tup [], .tup [], .tup [], .tup [], .tup [], .tup [], .tup [], .tup [], .tup [], .tup [], .tup [], .tup [], .tup [], .tup [], .tup [], .tup [], .tup [], .tup [], .tup [], .tup [], .tup [], .tup [], .tup [], .tup [], .tup [], .tup [], .tup [], .tup [], .tup [], .tup [], .tup [], .tup [], .tup []], []⟩ S _
  refine q_seq e0 ?_
  refine q_region e1 rfl ?_
  refine q_op (dst := some 4) rfl (fun _ ho => ok_assign ho (.const fun _ => .slNil none)) ?_
  refine hr_region_end ?_
  try dsimp only [HAct.put, List.set_cons_zero, List.set_cons_succ]
  refine q_seq e2 ?_
  refine q_seq e3 ?_
  refine q_region e4 rfl ?_
  refine q_op (dst := some 6) rfl (fun _ ho => ok_move ho (.tmp rfl)) ?_
  refine q_op (dst := some 7) rfl (fun _ ho => ok_nil_ptr ho tu25 (.tmp rfl) (.inl ⟨rfl, rfl⟩)) ?_
  refine hr_region_end ?_
  try dsimp only [HAct.put, List.set_cons_zero, List.set_cons_succ]
  rcases ifc h with ⟨hc1, h⟩ | ⟨hc1, h⟩
  · refine q_cond_t e5 (.tmp rfl) hc1 ?_
    refine q_seq e6 ?_
    refine q_region e7 rfl ?_
    refine q_op (dst := some 4) rfl (fun _ ho => ok_assign ho (.const fun _ => .slNil none)) ?_
    refine hr_region_end ?_
    try dsimp only [HAct.put, List.set_cons_zero, List.set_cons_succ]
    cases h
    exact q_ret e8 at_.at_ rfl (res1 rfl rfl) ⟨rfl, rfl⟩
  · refine q_cond_f e5 (.tmp rfl) (bfalse hc1) ?_
    refine q_skipc e9 ?_
    refine q_seq e10 ?_
    refine q_region e11 rfl ?_
    refine q_op (dst := some 8) rfl (fun _ ho => ok_move ho (.tmp rfl)) ?_
    refine q_op (dst := some 9) rfl (fun _ ho => ok_move ho (.tmp rfl)) ?_
    obtain ⟨p2, hp2, h⟩ := bindo h
    refine q_op (dst := some 10) rfl (fun _ ho => ok_nilCheck_p ho (.tmp rfl) hp2) ?_
    refine q_op (dst := some 11) rfl (fun _ ho => ok_fieldAddr_s ho fi53_1 (by decide) (.tmp rfl) rfl) ?_
    try dsimp only [HAct.put, List.set_cons_zero, List.set_cons_succ]
    obtain ⟨p3, hp3, h⟩ := bindo h
    refine q_op (dst := some 12) rfl (fun _ ho => ok_load_s ho sc31 (.tmp rfl) rfl (ldSl_out hp3)) ?_
    refine q_op (dst := some 13) rfl (fun _ ho => ok_len_sl (q := Sl.a p3) (n := Sl.len p3) (z := Sl.cap p3) ho rfl tu31 (.tmp rfl)) ?_
    refine q_op (dst := some 14) rfl (fun _ ho => ok_min ho (.tmp rfl) (.tmp rfl)) ?_
    refine q_op (dst := some 15) rfl (fun _ ho => ok_max ho (.int _ _) (.tmp rfl)) ?_
    try dsimp only [HAct.put, List.set_cons_zero, List.set_cons_succ]
    refine q_op (dst := some 1) rfl (fun _ ho => ok_assign ho (.tmp rfl)) ?_
    refine hr_region_end ?_
    try dsimp only [HAct.put, List.set_cons_zero, List.set_cons_succ]
    refine q_seq e12 ?_
    refine q_region e13 rfl ?_
    refine q_op (dst := some 16) rfl (fun _ ho => ok_move ho (.tmp rfl)) ?_
    obtain ⟨p4, hp4, h⟩ := bindo h
    refine q_op (dst := some 17) rfl (fun _ ho => ok_make el31 ho (.tmp rfl) (.tmp rfl) hp4) ?_
    refine q_op (dst := some 5) rfl (fun _ ho => ok_assign ho (.tmp rfl)) ?_
    refine hr_region_end ?_
    try dsimp only [HAct.put, List.set_cons_zero, List.set_cons_succ]
    refine q_seq e14 ?_
    refine q_region e15 rfl ?_
    refine q_op (dst := some 18) rfl (fun _ ho => ok_move ho (.tmp rfl)) ?_
    refine q_op (dst := some 19) rfl (fun _ ho => ok_move ho (.tmp rfl)) ?_
    obtain ⟨p5, hp5, h⟩ := bindo h
    refine q_op (dst := some 20) rfl (fun _ ho => ok_nilCheck_p ho (.tmp rfl) hp5) ?_
    refine q_op (dst := some 21) rfl (fun _ ho => ok_fieldAddr_s ho fi53_1 (by decide) (.tmp rfl) rfl) ?_
    try dsimp only [HAct.put, List.set_cons_zero, List.set_cons_succ]
    obtain ⟨p6, hp6, h⟩ := bindo h
    refine q_op (dst := some 22) rfl (fun _ ho => ok_load_s ho sc31 (.tmp rfl) rfl (ldSl_out hp6)) ?_
    obtain ⟨p7, hp7, h⟩ := bindo h
    obtain ⟨p8, hp8, h⟩ := bindo h
    refine q_op (dst := some 23) rfl (fun _ ho => ok_copy (s := (p4.1)) (s1 := p6) el31 ho rfl (.tmp rfl) (.tmp rfl) hp7 hp8) ?_
    refine hr_region_end ?_
    try dsimp only [HAct.put, List.set_cons_zero, List.set_cons_succ]
    refine q_seq e16 ?_
    refine x_start (cls := [0, 0, 0, 0, 1, 0, 0, 0, 1, 0, 2, 0, 0, 2]) (rk := [0, 1, 2, 3, 4, 5, 6, 7, 8, 9, 10, 11, 12, 13]) e17 (by kernel_rfl) ?_
    refine x_go (f_op (dst := some 24) (ts := [0]) rfl (by intro _ _ h; cases h) (by kernel_rfl) (fun _ _ ho => ok_move ho (.tmp rfl))) rfl ?_
    refine x_go (f_op (dst := some 25) (ts := [0]) rfl (by intro _ _ h; cases h) (by kernel_rfl) (fun _ _ ho => ok_move ho (.tmp rfl))) rfl ?_
    obtain ⟨p9, hp9, h⟩ := bindo h
    refine x_go (f_op (dst := some 26) (ts := [25]) rfl (by intro _ _ h; cases h) (by kernel_rfl) (fun _ _ ho => ok_nilCheck_p ho (.tmp rfl) hp9)) rfl ?_
    refine x_go (f_op (dst := some 27) (ts := [26]) rfl (by intro _ _ h; cases h) (by kernel_rfl) (fun _ _ ho => ok_fieldAddr_s ho fi53_1 (by decide) (.tmp rfl) rfl)) rfl ?_
    try dsimp only [HAct.put, List.set_cons_zero, List.set_cons_succ]
    obtain ⟨p10, hp10, h⟩ := bindo h
    refine x_go (r_op (dst := some 28) (ts := [27]) rfl (by intro _ _ h; cases h) (by kernel_rfl) (fun _ ho => ok_load_s ho sc31 (.tmp rfl) rfl (ldSl_out hp10))) rfl ?_
    refine x_go (f_op (dst := some 29) (ts := [0]) rfl (by intro _ _ h; cases h) (by kernel_rfl) (fun _ _ ho => ok_move ho (.tmp rfl))) rfl ?_
    obtain ⟨p11, hp11, h⟩ := bindo h
    refine x_go (f_op (dst := some 30) (ts := [29]) rfl (by intro _ _ h; cases h) (by kernel_rfl) (fun _ _ ho => ok_nilCheck_p ho (.tmp rfl) hp11)) rfl ?_
    refine x_go (f_op (dst := some 31) (ts := [30]) rfl (by intro _ _ h; cases h) (by kernel_rfl) (fun _ _ ho => ok_fieldAddr_s ho fi53_2 (by decide) (.tmp rfl) rfl)) rfl ?_
    try dsimp only [HAct.put, List.set_cons_zero, List.set_cons_succ]
    obtain ⟨p12, hp12, h⟩ := bindo h
    refine x_go (r_op (dst := some 32) (ts := [31]) rfl (by intro _ _ h; cases h) (by kernel_rfl) (fun _ ho => ok_load_s ho sc3 (.tmp rfl) rfl (ldI_out hp12))) rfl ?_
    refine x_go (f_op (dst := some 33) (ts := [1]) rfl (by intro _ _ h; cases h) (by kernel_rfl) (fun _ _ ho => ok_move ho (.tmp rfl))) rfl ?_
    obtain ⟨p13, hp13, h⟩ := bindo h
    refine x_go (e_call (dst := some 34) (ts := [28, 32, 33]) rfl (by kernel_rfl) (.func _) (.cons (.tmp rfl) (.cons (.tmp rfl) (.cons (.tmp rfl) Evs.nil))) (HInv.static sendq_torn.at_ sendq_torn.body (sendq_torn.snd  hp13))) rfl ?_
    obtain ⟨p14, hp14, h⟩ := bindo h
    refine x_go (f_op (dst := some 35) (ts := [24]) rfl (by intro _ _ h; cases h) (by kernel_rfl) (fun _ _ ho => ok_nilCheck_p ho (.tmp rfl) hp14)) rfl ?_
    try dsimp only [HAct.put, List.set_cons_zero, List.set_cons_succ]
    refine x_go (f_op (dst := some 36) (ts := [35]) rfl (by intro _ _ h; cases h) (by kernel_rfl) (fun _ _ ho => ok_fieldAddr_s ho fi53_2 (by decide) (.tmp rfl) rfl)) rfl ?_
    obtain ⟨p15, hp15, h⟩ := bindo h
    refine x_go (e_op (dst := none) (ts := [36, 34]) rfl (by intro _ _ h; cases h) (by kernel_rfl) (fun _ ho => ok_store_s (v := (.int .i64 p13.1)) ho sz3 (.tmp rfl) rfl (.tmp rfl) rfl hp15)) rfl ?_
    refine x_rest rfl ?_
    refine hr_region_end ?_
    try dsimp only [HAct.put, List.set_cons_zero, List.set_cons_succ]
    refine q_seq e18 ?_
    refine q_region e19 rfl ?_
    refine q_op (dst := some 37) rfl (fun _ ho => ok_move ho (.tmp rfl)) ?_
    refine q_op (dst := some 38) rfl (fun _ ho => ok_move ho (.tmp rfl)) ?_
    obtain ⟨p16, hp16, h⟩ := bindo h
    refine q_op (dst := some 39) rfl (fun _ ho => ok_nilCheck_p ho (.tmp rfl) hp16) ?_
    refine q_op (dst := some 40) rfl (fun _ ho => ok_fieldAddr_s ho fi53_1 (by decide) (.tmp rfl) rfl) ?_
    try dsimp only [HAct.put, List.set_cons_zero, List.set_cons_succ]
    obtain ⟨p17, hp17, h⟩ := bindo h
    refine q_op (dst := some 41) rfl (fun _ ho => ok_load_s ho sc31 (.tmp rfl) rfl (ldSl_out hp17)) ?_
    refine q_op (dst := some 42) rfl (fun _ ho => ok_move ho (.tmp rfl)) ?_
    obtain ⟨p18, hp18, h⟩ := bindo h
    refine q_op (dst := some 43) rfl (fun _ ho => ok_slice (kl := .i64) (kh := .i64) (s := p17) (l := (mx 0 (mn x1 (Sl.len p3 : Int)))) (h := (Sl.len p17 : Int)) ho tu31 si5 (.tmp rfl) (.inr ⟨_, rfl, (.tmp rfl)⟩) (.inl ⟨rfl, rfl⟩) hp18) ?_
    obtain ⟨p19, hp19, h⟩ := bindo h
    obtain ⟨p20, hp20, h⟩ := bindo h
    refine q_op (dst := some 44) rfl (fun _ ho => ok_append (s := Sl.nil) (s1 := p18) el31 ho rfl rfl ⟨_, tu31⟩ (.const fun _ => .slNil none) (.tmp rfl) hp19 hp20) ?_
    try dsimp only [HAct.put, List.set_cons_zero, List.set_cons_succ]
    obtain ⟨p21, hp21, h⟩ := bindo h
    refine q_op (dst := some 45) rfl (fun _ ho => ok_nilCheck_p ho (.tmp rfl) hp21) ?_
    refine q_op (dst := some 46) rfl (fun _ ho => ok_fieldAddr_s ho fi53_1 (by decide) (.tmp rfl) rfl) ?_
    obtain ⟨p22, hp22, h⟩ := bindo h
    refine q_op (dst := none) rfl (fun _ ho => ok_store_s (v := (Sl.hv (p20.1))) ho sz31 (.tmp rfl) rfl (.tmp rfl) rfl hp22) ?_
    refine hr_region_end ?_
    try dsimp only [HAct.put, List.set_cons_zero, List.set_cons_succ]
    refine q_seq e20 ?_
    refine q_region e21 rfl ?_
    refine q_op (dst := some 47) rfl (fun _ ho => ok_move ho (.tmp rfl)) ?_
    obtain ⟨p23, hp23, h⟩ := bindo h
    refine q_op (dst := some 48) rfl (fun _ ho => ok_nilCheck_p ho (.tmp rfl) hp23) ?_
    refine q_op (dst := some 49) rfl (fun _ ho => ok_fieldAddr_s ho fi53_3 (by decide) (.tmp rfl) rfl) ?_
    obtain ⟨p24, hp24, h⟩ := bindo h
    refine q_op (dst := some 50) rfl (fun _ ho => ok_load_s ho sc3 (.tmp rfl) rfl (ldI_out hp24)) ?_
    try dsimp only [HAct.put, List.set_cons_zero, List.set_cons_succ]
    refine q_op (dst := some 51) rfl (fun _ ho => ok_move ho (.tmp rfl)) ?_
    refine q_op (dst := some 52) rfl (fun _ ho => ok_ibin ho (.tmp rfl) (.tmp rfl) rfl) ?_
    obtain ⟨p25, hp25, h⟩ := bindo h
    refine q_op (dst := some 53) rfl (fun _ ho => ok_nilCheck_p ho (.tmp rfl) hp25) ?_
    refine q_op (dst := some 54) rfl (fun _ ho => ok_fieldAddr_s ho fi53_3 (by decide) (.tmp rfl) rfl) ?_
    try dsimp only [HAct.put, List.set_cons_zero, List.set_cons_succ]
    obtain ⟨p26, hp26, h⟩ := bindo h
    refine q_op (dst := none) rfl (fun _ ho => ok_store_s (v := (.int .i64 (w64 (p24 + (mx 0 (mn x1 (Sl.len p3 : Int))))))) ho sz3 (.tmp rfl) rfl (.tmp rfl) rfl hp26) ?_
    refine hr_region_end ?_
    try dsimp only [HAct.put, List.set_cons_zero, List.set_cons_succ]
    refine q_seq e22 ?_
    refine q_region e23 rfl ?_
    refine q_op (dst := some 55) rfl (fun _ ho => ok_move ho (.tmp rfl)) ?_
    refine q_op (dst := some 4) rfl (fun _ ho => ok_assign ho (.tmp rfl)) ?_
    refine hr_region_end ?_
    try dsimp only [HAct.put, List.set_cons_zero, List.set_cons_succ]
    cases h
    exact q_ret e24 at_.at_ rfl (res1 rfl rfl) ⟨rfl, rfl⟩
end
end sendq_Queue_Drain
namespace sendq_Queue_Lines_1
abbrev id : Nat := 24
theorem at_ : FnAt Try.prog 24 Try.f24 := ⟨Try.func24, by kernel_rfl⟩
noncomputable def c0 : Code := (Try.f24.body).getD .skip
theorem e0 : c0 = .skip := by kernel_rfl
theorem body : Try.f24.body = some c0 := by kernel_rfl
section
variable {base : Nat} {W0 : World} {β0 : Bt}
def f (x0 : HV) : Option (Unit) :=
  some ()
theorem snd {x0 : HV} {S : HS}  {p : Unit} (h : f x0 = some p) : HCall Try.prog base W0 β0 24 [x0] S (fun v S1 => v = (.tup []) ∧ S1 = S) := by
  unfold f at h
  refine HCall.of_run at_.at_ body ?_
  show HRun Try.prog base W0 β0 24 none [.code c0] ⟨[x0, .tup []], []⟩ S _
  refine q_skipc e0 ?_
  cases h
  exact q_end at_.at_ rfl (res0 rfl) ⟨rfl, rfl⟩
end
end sendq_Queue_Lines_1
namespace internal_bytealg_Cutover
abbrev id : Nat := 38
theorem at_ : FnAt Try.prog 38 Try.f38 := ⟨Try.func38, by kernel_rfl⟩
noncomputable def c0 : Code := (Try.f38.body).getD .skip
noncomputable def c1 : Code := match c0 with | .seq x _ => x | _ => .skip
noncomputable def c2 : Code := match c0 with | .seq _ x => x | _ => .skip
noncomputable def c3 : Code := match c2 with | .seq x _ => x | _ => .skip
noncomputable def c4 : Code := match c2 with | .seq _ x => x | _ => .skip
theorem e0 : c0 = .seq c1 c2 := by kernel_rfl
noncomputable def r1 : Array Oper := match c1 with | .region _ x _ => x | _ => #[]
theorem e1 : c1 = .region 0 r1 false := by kernel_rfl
theorem e2 : c2 = .seq c3 c4 := by kernel_rfl
noncomputable def r3 : Array Oper := match c3 with | .region _ x _ => x | _ => #[]
theorem e3 : c3 = .region 1 r3 false := by kernel_rfl
theorem e4 : c4 = .ret := by kernel_rfl
theorem body : Try.f38.body = some c0 := by kernel_rfl
section
variable {base : Nat} {W0 : World} {β0 : Bt}
def f (x0 : Int) : Option (Int) :=
  some (w64 (Int.tdiv (w64 (x0 + 16)) 8))
theorem snd {x0 : Int} {S : HS}  {p : Int} (h : f x0 = some p) : HCall Try.prog base W0 β0 38 [(.int .i64 x0)] S (fun v S1 => v = (.int .i64 p) ∧ S1 = S) := by
  unfold f at h
  refine HCall.of_run at_.at_ body ?_
  show HRun Try.prog base W0 β0 38 none [.code c0] ⟨[(.int .i64 x0), .tup [], .tup [], .tup [], .tup [], .tup []], []⟩ S _
  refine q_seq e0 ?_
  refine q_region e1 rfl ?_
  refine q_op (dst := some 2) rfl (fun _ ho => ok_assign ho (.int _ _)) ?_
  refine hr_region_end ?_
  try dsimp only [HAct.put, List.set_cons_zero, List.set_cons_succ]
  refine q_seq e2 ?_
  refine q_region e3 rfl ?_
  refine q_op (dst := some 3) rfl (fun _ ho => ok_move ho (.tmp rfl)) ?_
  refine q_op (dst := some 4) rfl (fun _ ho => ok_ibin ho (.tmp rfl) (.int _ _) rfl) ?_
  refine q_op (dst := some 5) rfl (fun _ ho => ok_quo ho (.tmp rfl) (.int _ _) (by decide)) ?_
  refine q_op (dst := some 2) rfl (fun _ ho => ok_assign ho (.tmp rfl)) ?_
  refine hr_region_end ?_
  try dsimp only [HAct.put, List.set_cons_zero, List.set_cons_succ]
  cases h
  exact q_ret e4 at_.at_ rfl (res1 rfl rfl) ⟨rfl, rfl⟩
end
end internal_bytealg_Cutover
end Go.Proofs.Ytpjabhpfaahgoaa.X
