/- Functions of the program, each as a Lean function over the layer HL: a call answers what the Lean function answers, where it answers. -/
import Derived.Test.YtpdainofeaombaaProg
import Derived.Test.YtpdainofeaombaaHLx
namespace Go.Proofs.Ytpdainofeaombaa.X
open Go.Proofs.Ytpdainofeaombaa.HL
set_option linter.unusedVariables false
set_option linter.unusedSimpArgs false
set_option maxRecDepth 20000
set_option maxHeartbeats 4000000
theorem tu24 : Try.prog.underlying 24 = some (.slice 3) := by kernel_rfl
theorem tu3 : Try.prog.underlying 3 = some (.int .i64) := by kernel_rfl
theorem tu57 : Try.prog.underlying 57 = some (.int .u64) := by kernel_rfl
theorem sz3 : ∃ q, Try.prog.info? 3 = some q ∧ q.size = 1 := size_mk' (by kernel_rfl)
theorem sc3 : Scalar Try.prog 3 := ⟨(.int .i64), by kernel_rfl, trivial⟩
theorem si3 : SizeIs Try.prog 3 1 8 := sizeIs_mk (by kernel_rfl)
theorem el24 : ElemAt Try.prog 24 3 1 [(.int .i64 0)] := elemAt_mk (zv := (.int .i64 0)) (by_ := 8) (by kernel_rfl) (by kernel_rfl) (by decide) (fun β => VRels.cons (.int _ _) (VRels.nil β)) rfl (by decide) rfl
theorem ext33 : ExtAt Try.prog 33 (Extern.SlicesOverlaps.overlaps #[24, 24] #[4]) := ⟨Try.f33, Try.func33, by kernel_rfl, by kernel_rfl, by kernel_rfl, by kernel_rfl⟩
theorem tu26 : Try.prog.underlying 26 = some (.pointer 50) := by kernel_rfl
theorem fi50_0 : fieldInfo Try.prog 50 0 = some (0, 24, 1) := by kernel_rfl
theorem sc24 : Scalar Try.prog 24 := ⟨(.slice 3), by kernel_rfl, trivial⟩
theorem sz24 : ∃ q, Try.prog.info? 24 = some q ∧ q.size = 1 := size_mk' (by kernel_rfl)
theorem st50 : StructAt Try.prog 50 [(0, 1)] [(Sl.hv Sl.nil)] := structAt_mk (zv := (.agg #[(.slice none 0 0)])) (by kernel_rfl) (by kernel_rfl) (fun β => VRels.cons (.slNil none) (VRels.nil β))
theorem tu22 : Try.prog.underlying 22 = some (.slice 24) := by kernel_rfl
theorem el22 : ElemAt Try.prog 22 24 1 [(Sl.hv Sl.nil)] := elemAt_mk (zv := (.slice none 0 0)) (by_ := 24) (by kernel_rfl) (by kernel_rfl) (by decide) (fun β => VRels.cons (.slNil none) (VRels.nil β)) rfl (by decide) rfl
theorem sc22 : Scalar Try.prog 22 := ⟨(.slice 24), by kernel_rfl, trivial⟩
theorem zi22 : (Try.prog.info? 22).map (·.zero) = some (some (.slice none 0 0)) := by kernel_rfl
theorem zr22 : ∀ β, VRels β [(Sl.hv Sl.nil)] (Value.cells (.slice none 0 0)) := fun β => VRels.cons (.slNil none) (VRels.nil β)
theorem tu25 : Try.prog.underlying 25 = some (.slice 26) := by kernel_rfl
theorem sz26 : ∃ q, Try.prog.info? 26 = some q ∧ q.size = 1 := size_mk' (by kernel_rfl)
theorem sc26 : Scalar Try.prog 26 := ⟨(.pointer 50), by kernel_rfl, trivial⟩
theorem sz22 : ∃ q, Try.prog.info? 22 = some q ∧ q.size = 1 := size_mk' (by kernel_rfl)
theorem zi24 : (Try.prog.info? 24).map (·.zero) = some (some (.slice none 0 0)) := by kernel_rfl
theorem zr24 : ∀ β, VRels β [(Sl.hv Sl.nil)] (Value.cells (.slice none 0 0)) := fun β => VRels.cons (.slNil none) (VRels.nil β)
theorem zi4 : (Try.prog.info? 4).map (·.zero) = some (some (.bool false)) := by kernel_rfl
theorem zr4 : ∀ β, VRels β [(.bool false)] (Value.cells (.bool false)) := fun β => VRels.cons (.bool _) (VRels.nil β)
theorem tu31 : Try.prog.underlying 31 = some (.func #[47] #[] false) := by kernel_rfl
theorem sz4 : ∃ q, Try.prog.info? 4 = some q ∧ q.size = 1 := size_mk' (by kernel_rfl)
theorem sc4 : Scalar Try.prog 4 := ⟨.bool, by kernel_rfl, trivial⟩
theorem el25 : ElemAt Try.prog 25 26 1 [(.ptr none)] := elemAt_mk (zv := (.pointer none)) (by_ := 8) (by kernel_rfl) (by kernel_rfl) (by decide) (fun β => VRels.cons (.ptrNil) (VRels.nil β)) rfl (by decide) rfl
theorem sc31 : Scalar Try.prog 31 := ⟨(.func #[47] #[] false), by kernel_rfl, trivial⟩
theorem sc47 : Scalar Try.prog 47 := ⟨(.func #[3] #[4] false), by kernel_rfl, trivial⟩
theorem tu4 : Try.prog.underlying 4 = some .bool := by kernel_rfl
theorem tu40 : Try.prog.underlying 40 = some (.slice 42) := by kernel_rfl
theorem sz42 : ∃ q, Try.prog.info? 42 = some q ∧ q.size = 2 := size_mk' (by kernel_rfl)
theorem fi42_1 : fieldInfo Try.prog 42 1 = some (1, 24, 1) := by kernel_rfl
theorem fi42_0 : fieldInfo Try.prog 42 0 = some (0, 3, 1) := by kernel_rfl
namespace cmp_isNaN_int
abbrev id : Nat := 36
theorem at_ : FnAt Try.prog 36 Try.f36 := ⟨Try.func36, by kernel_rfl⟩
noncomputable def c0 : Code := (Try.f36.body).getD .skip
noncomputable def c1 : Code := match c0 with | .seq x _ => x | _ => .skip
noncomputable def c2 : Code := match c0 with | .seq _ x => x | _ => .skip
noncomputable def c3 : Code := match c2 with | .seq x _ => x | _ => .skip
noncomputable def c4 : Code := match c2 with | .seq _ x => x | _ => .skip
theorem e0 : c0 = .seq c1 c2 := by kernel_rfl
noncomputable def r1 : Array Oper := match c1 with | .region _ x _ => x | _ => #[]
theorem e1 : c1 = .region 0 r1 false := by kernel_rfl
theorem e2 : c2 = .seq c3 c4 := by kernel_rfl
noncomputable def r3 : Array Oper := match c3 with | .region _ x _ => x | _ => #[]
theorem e3 : c3 = .region 1 r3 false := by kernel_rfl
theorem e4 : c4 = .ret := by kernel_rfl
theorem body : Try.f36.body = some c0 := by kernel_rfl
section
variable {base : Nat} {W0 : World} {β0 : Bt}
def f (x0 : Int) : Option (Bool) :=
  some (!decide (x0 = x0))
theorem snd {x0 : Int} {S : HS}  {p : Bool} (h : f x0 = some p) : HCall Try.prog base W0 β0 36 [(.int .i64 x0)] S (fun v S1 => v = (.bool p) ∧ S1 = S) := by
  unfold f at h
  refine HCall.of_run at_.at_ body ?_
  show HRun Try.prog base W0 β0 36 none [.code c0] ⟨[(.int .i64 x0), .tup [], .tup [], .tup [], .tup [], .tup []], []⟩ S _
  refine q_seq e0 ?_
  refine q_region e1 rfl ?_
  refine q_op (dst := some 2) rfl (fun _ ho => ok_assign ho (.bool _)) ?_
  refine hr_region_end ?_
  try dsimp only [HAct.put, List.set_cons_zero, List.set_cons_succ]
  refine q_seq e2 ?_
  refine q_region e3 rfl ?_
  refine q_op (dst := some 3) rfl (fun _ ho => ok_move ho (.tmp rfl)) ?_
  refine q_op (dst := some 4) rfl (fun _ ho => ok_move ho (.tmp rfl)) ?_
  refine q_op (dst := some 5) rfl (fun _ ho => ok_ibin ho (.tmp rfl) (.tmp rfl) rfl) ?_
  refine q_op (dst := some 2) rfl (fun _ ho => ok_assign ho (.tmp rfl)) ?_
  refine hr_region_end ?_
  try dsimp only [HAct.put, List.set_cons_zero, List.set_cons_succ]
  cases h
  exact q_ret e4 at_.at_ rfl (res1 rfl rfl) ⟨rfl, rfl⟩
end
end cmp_isNaN_int
namespace cmp_Less_int
abbrev id : Nat := 31
theorem at_ : FnAt Try.prog 31 Try.f31 := ⟨Try.func31, by kernel_rfl⟩
noncomputable def c0 : Code := (Try.f31.body).getD .skip
noncomputable def c1 : Code := match c0 with | .seq x _ => x | _ => .skip
noncomputable def c2 : Code := match c0 with | .seq _ x => x | _ => .skip
noncomputable def c3 : Code := match c2 with | .seq x _ => x | _ => .skip
noncomputable def c4 : Code := match c2 with | .seq _ x => x | _ => .skip
theorem e0 : c0 = .seq c1 c2 := by kernel_rfl
noncomputable def r1 : Array Oper := match c1 with | .region _ x _ => x | _ => #[]
theorem e1 : c1 = .region 0 r1 false := by kernel_rfl
theorem e2 : c2 = .seq c3 c4 := by kernel_rfl
noncomputable def r3 : Array Oper := match c3 with | .region _ x _ => x | _ => #[]
theorem e3 : c3 = .region 1 r3 false := by kernel_rfl
theorem e4 : c4 = .ret := by kernel_rfl
theorem body : Try.f31.body = some c0 := by kernel_rfl
section
variable {base : Nat} {W0 : World} {β0 : Bt}
def J1  (y16 : Bool) : Option (Bool) :=
  some y16
theorem J1_snd   {y16 : Bool} {S : HS} {p : Bool} {g0 g1 g2 g3 g4 g5 g6 g7 g8 g9 g10 g11 g12 g13 g14 g15 : HV} (h : J1  y16 = some p) : HRun Try.prog base W0 β0 31 none [.inRegion r3 [12], .code c4] ⟨[g0, g1, g2, g3, g4, g5, g6, g7, g8, g9, g10, g11, g12, g13, g14, g15, (.bool y16)], []⟩ S (fun v S1 => v = (.bool p) ∧ S1 = S) := by
  unfold J1 at h
  refine q_op (dst := some 4) rfl (fun _ ho => ok_assign ho (.tmp rfl)) ?_
  refine hr_region_end ?_
  try dsimp only [HAct.put, List.set_cons_zero, List.set_cons_succ]
  cases h
  exact q_ret e4 at_.at_ rfl (res1 rfl rfl) ⟨rfl, rfl⟩
def J0  (y0 : Int) (y1 : Int) (y11 : Bool) : Option (Bool) :=
  (if y11 = true then
  J1 true else
  J1 (decide (y0 < y1)))
theorem J0_snd   {y0 : Int} {y1 : Int} {y11 : Bool} {S : HS} {p : Bool} {g2 g3 g4 g5 g6 g7 g8 g9 g10 g12 g13 g14 g15 g16 : HV} (h : J0  y0 y1 y11 = some p) : HRun Try.prog base W0 β0 31 none [.inRegion r3 [7, 8, 9, 10, 11, 12], .code c4] ⟨[(.int .i64 y0), (.int .i64 y1), g2, g3, g4, g5, g6, g7, g8, g9, g10, (.bool y11), g12, g13, g14, g15, g16], []⟩ S (fun v S1 => v = (.bool p) ∧ S1 = S) := by
  unfold J0 at h
  refine q_op (dst := some 12) rfl (fun _ ho => ok_move ho (.tmp rfl)) ?_
  try dsimp only [HAct.put, List.set_cons_zero, List.set_cons_succ]
  rcases ifc h with ⟨hc4, h⟩ | ⟨hc4, h⟩
  · refine q_skip (dst := some 13) (t := 12) rfl rfl rfl hc4 ?_
    refine q_skip (dst := some 14) (t := 12) rfl rfl rfl hc4 ?_
    refine q_skip (dst := some 15) (t := 12) rfl rfl rfl hc4 ?_
    refine q_op (dst := some 16) rfl (fun _ ho => ok_pick_tt ho (.tmp rfl) hc4 (.bool _)) ?_
    try dsimp only [HAct.put, List.set_cons_zero, List.set_cons_succ]
    try dsimp only [HAct.put, List.set_cons_zero, List.set_cons_succ]
    exact J1_snd  h
  · refine q_op_g (t := 12) (dst := some 13) rfl rfl rfl (bfalse hc4) (fun _ ho => ok_move ho (.tmp rfl)) ?_
    refine q_op_g (t := 12) (dst := some 14) rfl rfl rfl (bfalse hc4) (fun _ ho => ok_move ho (.tmp rfl)) ?_
    refine q_op_g (t := 12) (dst := some 15) rfl rfl rfl (bfalse hc4) (fun _ ho => ok_ibin ho (.tmp rfl) (.tmp rfl) rfl) ?_
    refine q_op (dst := some 16) rfl (fun _ ho => ok_pick_ff ho (.tmp rfl) (bfalse hc4) (.tmp rfl)) ?_
    try dsimp only [HAct.put, List.set_cons_zero, List.set_cons_succ]
    try dsimp only [HAct.put, List.set_cons_zero, List.set_cons_succ]
    exact J1_snd  h
def f (x0 : Int) (x1 : Int) : Option (Bool) :=
  (Option.bind (cmp_isNaN_int.f x0) fun p1 =>
  (if p1 = true then
  (Option.bind (cmp_isNaN_int.f x1) fun p3 =>
  J0 x0 x1 (!p3)) else
  J0 x0 x1 false))
theorem snd {x0 : Int} {x1 : Int} {S : HS}  {p : Bool} (h : f x0 x1 = some p) : HCall Try.prog base W0 β0 31 [(.int .i64 x0), (.int .i64 x1)] S (fun v S1 => v = (.bool p) ∧ S1 = S) := by
  unfold f at h
  refine HCall.of_run at_.at_ body ?_
  show HRun Try.prog base W0 β0 31 none [.code c0] ⟨[(.int .i64 x0), (.int .i64 x1), .tup [], .tup [], .tup [], .tup [], .tup [], .tup [], .tup [], .tup [], .tup [], .tup [], .tup [], .tup [], .tup [], .tup [], .tup []], []⟩ S _
  refine q_seq e0 ?_
  refine q_region e1 rfl ?_
  refine q_op (dst := some 4) rfl (fun _ ho => ok_assign ho (.bool _)) ?_
  refine hr_region_end ?_
  try dsimp only [HAct.put, List.set_cons_zero, List.set_cons_succ]
  refine q_seq e2 ?_
  refine q_region e3 rfl ?_
  refine q_op (dst := some 5) rfl (fun _ ho => ok_move ho (.tmp rfl)) ?_
  obtain ⟨p1, hp1, h⟩ := bindo h
  refine q_call (dst := some 6) rfl (.func _) (.cons (.tmp rfl) Evs.nil) (HInv.static cmp_isNaN_int.at_ cmp_isNaN_int.body (cmp_isNaN_int.snd  hp1)) ?_
  rintro _ _ ⟨rfl, rfl⟩
  refine q_op (dst := some 7) rfl (fun _ ho => ok_move ho (.tmp rfl)) ?_
  rcases ifc h with ⟨hc2, h⟩ | ⟨hc2, h⟩
  · refine q_op_g (t := 7) (dst := some 8) rfl rfl rfl hc2 (fun _ ho => ok_move ho (.tmp rfl)) ?_
    try dsimp only [HAct.put, List.set_cons_zero, List.set_cons_succ]
    obtain ⟨p3, hp3, h⟩ := bindo h
    refine q_call_g (t := 7) (dst := some 9) rfl rfl rfl hc2 (.func _) (.cons (.tmp rfl) Evs.nil) (HInv.static cmp_isNaN_int.at_ cmp_isNaN_int.body (cmp_isNaN_int.snd  hp3)) ?_
    rintro _ _ ⟨rfl, rfl⟩
    refine q_op_g (t := 7) (dst := some 10) rfl rfl rfl hc2 (fun _ ho => ok_not ho (.tmp rfl)) ?_
    refine q_op (dst := some 11) rfl (fun _ ho => ok_pick_tt ho (.tmp rfl) hc2 (.tmp rfl)) ?_
    try dsimp only [HAct.put, List.set_cons_zero, List.set_cons_succ]
    exact J0_snd  h
  · refine q_skip (dst := some 8) (t := 7) rfl rfl rfl (bfalse hc2) ?_
    try dsimp only [HAct.put, List.set_cons_zero, List.set_cons_succ]
    refine q_skip (dst := some 9) (t := 7) rfl rfl rfl (bfalse hc2) ?_
    refine q_skip (dst := some 10) (t := 7) rfl rfl rfl (bfalse hc2) ?_
    refine q_op (dst := some 11) rfl (fun _ ho => ok_pick_ff ho (.tmp rfl) (bfalse hc2) (.bool _)) ?_
    try dsimp only [HAct.put, List.set_cons_zero, List.set_cons_succ]
    exact J0_snd  h
end
end cmp_Less_int
namespace slices_isNaN_int
abbrev id : Nat := 32
theorem at_ : FnAt Try.prog 32 Try.f32 := ⟨Try.func32, by kernel_rfl⟩
noncomputable def c0 : Code := (Try.f32.body).getD .skip
noncomputable def c1 : Code := match c0 with | .seq x _ => x | _ => .skip
noncomputable def c2 : Code := match c0 with | .seq _ x => x | _ => .skip
noncomputable def c3 : Code := match c2 with | .seq x _ => x | _ => .skip
noncomputable def c4 : Code := match c2 with | .seq _ x => x | _ => .skip
theorem e0 : c0 = .seq c1 c2 := by kernel_rfl
noncomputable def r1 : Array Oper := match c1 with | .region _ x _ => x | _ => #[]
theorem e1 : c1 = .region 0 r1 false := by kernel_rfl
theorem e2 : c2 = .seq c3 c4 := by kernel_rfl
noncomputable def r3 : Array Oper := match c3 with | .region _ x _ => x | _ => #[]
theorem e3 : c3 = .region 1 r3 false := by kernel_rfl
theorem e4 : c4 = .ret := by kernel_rfl
theorem body : Try.f32.body = some c0 := by kernel_rfl
section
variable {base : Nat} {W0 : World} {β0 : Bt}
def f (x0 : Int) : Option (Bool) :=
  some (!decide (x0 = x0))
theorem snd {x0 : Int} {S : HS}  {p : Bool} (h : f x0 = some p) : HCall Try.prog base W0 β0 32 [(.int .i64 x0)] S (fun v S1 => v = (.bool p) ∧ S1 = S) := by
  unfold f at h
  refine HCall.of_run at_.at_ body ?_
  show HRun Try.prog base W0 β0 32 none [.code c0] ⟨[(.int .i64 x0), .tup [], .tup [], .tup [], .tup [], .tup []], []⟩ S _
  refine q_seq e0 ?_
  refine q_region e1 rfl ?_
  refine q_op (dst := some 2) rfl (fun _ ho => ok_assign ho (.bool _)) ?_
  refine hr_region_end ?_
  try dsimp only [HAct.put, List.set_cons_zero, List.set_cons_succ]
  refine q_seq e2 ?_
  refine q_region e3 rfl ?_
  refine q_op (dst := some 3) rfl (fun _ ho => ok_move ho (.tmp rfl)) ?_
  refine q_op (dst := some 4) rfl (fun _ ho => ok_move ho (.tmp rfl)) ?_
  refine q_op (dst := some 5) rfl (fun _ ho => ok_ibin ho (.tmp rfl) (.tmp rfl) rfl) ?_
  refine q_op (dst := some 2) rfl (fun _ ho => ok_assign ho (.tmp rfl)) ?_
  refine hr_region_end ?_
  try dsimp only [HAct.put, List.set_cons_zero, List.set_cons_succ]
  cases h
  exact q_ret e4 at_.at_ rfl (res1 rfl rfl) ⟨rfl, rfl⟩
end
end slices_isNaN_int
namespace slices_BinarySearch_int_int
abbrev id : Nat := 26
theorem at_ : FnAt Try.prog 26 Try.f26 := ⟨Try.func26, by kernel_rfl⟩
noncomputable def c0 : Code := (Try.f26.body).getD .skip
noncomputable def c1 : Code := match c0 with | .seq x _ => x | _ => .skip
noncomputable def c2 : Code := match c0 with | .seq _ x => x | _ => .skip
noncomputable def c3 : Code := match c2 with | .seq x _ => x | _ => .skip
noncomputable def c4 : Code := match c2 with | .seq _ x => x | _ => .skip
noncomputable def c5 : Code := match c4 with | .seq x _ => x | _ => .skip
noncomputable def c6 : Code := match c4 with | .seq _ x => x | _ => .skip
noncomputable def c7 : Code := match c6 with | .seq x _ => x | _ => .skip
noncomputable def c8 : Code := match c7 with | .block _ x => x | _ => .skip
noncomputable def c9 : Code := match c8 with | .loop x => x | _ => .skip
noncomputable def c10 : Code := match c9 with | .seq x _ => x | _ => .skip
noncomputable def c11 : Code := match c10 with | .seq x _ => x | _ => .skip
noncomputable def c12 : Code := match c10 with | .seq _ x => x | _ => .skip
noncomputable def c13 : Code := match c12 with | .cond _ x _ => x | _ => .skip
noncomputable def c14 : Code := match c12 with | .cond _ _ x => x | _ => .skip
noncomputable def c15 : Code := match c9 with | .seq _ x => x | _ => .skip
noncomputable def c16 : Code := match c15 with | .block _ x => x | _ => .skip
noncomputable def c17 : Code := match c16 with | .seq x _ => x | _ => .skip
noncomputable def c18 : Code := match c16 with | .seq _ x => x | _ => .skip
noncomputable def c19 : Code := match c18 with | .seq x _ => x | _ => .skip
noncomputable def c20 : Code := match c18 with | .seq _ x => x | _ => .skip
noncomputable def c21 : Code := match c20 with | .cond _ x _ => x | _ => .skip
noncomputable def c22 : Code := match c20 with | .cond _ _ x => x | _ => .skip
noncomputable def c23 : Code := match c6 with | .seq _ x => x | _ => .skip
noncomputable def c24 : Code := match c23 with | .seq x _ => x | _ => .skip
noncomputable def c25 : Code := match c23 with | .seq _ x => x | _ => .skip
theorem e0 : c0 = .seq c1 c2 := by kernel_rfl
noncomputable def r1 : Array Oper := match c1 with | .region _ x _ => x | _ => #[]
theorem e1 : c1 = .region 0 r1 false := by kernel_rfl
theorem e2 : c2 = .seq c3 c4 := by kernel_rfl
noncomputable def r3 : Array Oper := match c3 with | .region _ x _ => x | _ => #[]
theorem e3 : c3 = .region 1 r3 false := by kernel_rfl
theorem e4 : c4 = .seq c5 c6 := by kernel_rfl
noncomputable def r5 : Array Oper := match c5 with | .region _ x _ => x | _ => #[]
theorem e5 : c5 = .region 2 r5 false := by kernel_rfl
theorem e6 : c6 = .seq c7 c23 := by kernel_rfl
theorem e7 : c7 = .block 0 c8 := by kernel_rfl
theorem e8 : c8 = .loop c9 := by kernel_rfl
theorem e9 : c9 = .seq c10 c15 := by kernel_rfl
theorem e10 : c10 = .seq c11 c12 := by kernel_rfl
noncomputable def r11 : Array Oper := match c11 with | .region _ x _ => x | _ => #[]
theorem e11 : c11 = .region 3 r11 false := by kernel_rfl
theorem e12 : c12 = .cond (.tmp 15) c13 c14 := by kernel_rfl
theorem e13 : c13 = .skip := by kernel_rfl
theorem e14 : c14 = .exit 0 := by kernel_rfl
theorem e15 : c15 = .block 1 c16 := by kernel_rfl
theorem e16 : c16 = .seq c17 c18 := by kernel_rfl
noncomputable def r17 : Array Oper := match c17 with | .region _ x _ => x | _ => #[]
theorem e17 : c17 = .region 4 r17 false := by kernel_rfl
theorem e18 : c18 = .seq c19 c20 := by kernel_rfl
noncomputable def r19 : Array Oper := match c19 with | .region _ x _ => x | _ => #[]
theorem e19 : c19 = .region 5 r19 false := by kernel_rfl
theorem e20 : c20 = .cond (.tmp 27) c21 c22 := by kernel_rfl
noncomputable def r21 : Array Oper := match c21 with | .region _ x _ => x | _ => #[]
theorem e21 : c21 = .region 6 r21 false := by kernel_rfl
noncomputable def r22 : Array Oper := match c22 with | .region _ x _ => x | _ => #[]
theorem e22 : c22 = .region 7 r22 false := by kernel_rfl
theorem e23 : c23 = .seq c24 c25 := by kernel_rfl
noncomputable def r24 : Array Oper := match c24 with | .region _ x _ => x | _ => #[]
theorem e24 : c24 = .region 8 r24 false := by kernel_rfl
theorem e25 : c25 = .ret := by kernel_rfl
theorem body : Try.f26.body = some c0 := by kernel_rfl
section
variable {base : Nat} {W0 : World} {β0 : Bt}
def J2 (k : Nat) (y31 : Int) (y53 : Bool) (S : HS) : Option ((Int × Bool) × HS) :=
  some ((y31, y53), S)
theorem J2_snd {k : Nat}  {y31 : Int} {y53 : Bool} {S : HS} {p : (Int × Bool) × HS} {g0 g1 g2 g3 g4 g5 g6 g7 g8 g9 g10 g11 g12 g13 g14 g15 g16 g17 g18 g19 g20 g21 g22 g23 g24 g25 g26 g27 g28 g29 g30 g32 g33 g34 g35 g36 g37 g38 g39 g40 g41 g42 g43 g44 g45 g46 g47 g48 g49 g50 g51 g52 : HV} (h : J2 k y31 y53 S = some p) : HRun Try.prog base W0 β0 26 none [.inRegion r24 [23, 24], .code c25] ⟨[g0, g1, g2, g3, g4, g5, g6, g7, g8, g9, g10, g11, g12, g13, g14, g15, g16, g17, g18, g19, g20, g21, g22, g23, g24, g25, g26, g27, g28, g29, g30, (.int .i64 y31), g32, g33, g34, g35, g36, g37, g38, g39, g40, g41, g42, g43, g44, g45, g46, g47, g48, g49, g50, g51, g52, (.bool y53)], []⟩ S (fun v S1 => v = (.tup [(.int .i64 p.1.1), (.bool p.1.2)]) ∧ S1 = p.2) := by
  unfold J2 at h
  refine q_op (dst := some 4) rfl (fun _ ho => ok_assign ho (.tmp rfl)) ?_
  try dsimp only [HAct.put, List.set_cons_zero, List.set_cons_succ]
  refine q_op (dst := some 5) rfl (fun _ ho => ok_assign ho (.tmp rfl)) ?_
  refine hr_region_end ?_
  try dsimp only [HAct.put, List.set_cons_zero, List.set_cons_succ]
  cases h
  exact q_ret e25 at_.at_ rfl (res2 rfl rfl rfl) ⟨rfl, rfl⟩
def J1 (k : Nat) (y31 : Int) (y35 : Bool) (y52 : Bool) (S : HS) : Option ((Int × Bool) × HS) :=
  (if y35 = true then
  J2 k y31 y52 S else
  J2 k y31 false S)
theorem J1_snd {k : Nat}  {y31 : Int} {y35 : Bool} {y52 : Bool} {S : HS} {p : (Int × Bool) × HS} {g0 g1 g2 g3 g4 g5 g6 g7 g8 g9 g10 g11 g12 g13 g14 g15 g16 g17 g18 g19 g20 g21 g22 g23 g24 g25 g26 g27 g28 g29 g30 g32 g33 g34 g36 g37 g38 g39 g40 g41 g42 g43 g44 g45 g46 g47 g48 g49 g50 g51 g53 : HV} (h : J1 k y31 y35 y52 S = some p) : HRun Try.prog base W0 β0 26 none [.inRegion r24 [22, 23, 24], .code c25] ⟨[g0, g1, g2, g3, g4, g5, g6, g7, g8, g9, g10, g11, g12, g13, g14, g15, g16, g17, g18, g19, g20, g21, g22, g23, g24, g25, g26, g27, g28, g29, g30, (.int .i64 y31), g32, g33, g34, (.bool y35), g36, g37, g38, g39, g40, g41, g42, g43, g44, g45, g46, g47, g48, g49, g50, g51, (.bool y52), g53], []⟩ S (fun v S1 => v = (.tup [(.int .i64 p.1.1), (.bool p.1.2)]) ∧ S1 = p.2) := by
  unfold J1 at h
  rcases ifc h with ⟨hc10, h⟩ | ⟨hc10, h⟩
  · refine q_op (dst := some 53) rfl (fun _ ho => ok_pick_tt ho (.tmp rfl) hc10 (.tmp rfl)) ?_
    try dsimp only [HAct.put, List.set_cons_zero, List.set_cons_succ]
    exact J2_snd  h
  · refine q_op (dst := some 53) rfl (fun _ ho => ok_pick_ff ho (.tmp rfl) (bfalse hc10) (.bool _)) ?_
    try dsimp only [HAct.put, List.set_cons_zero, List.set_cons_succ]
    exact J2_snd  h
def J3 (k : Nat) (y31 : Int) (y35 : Bool) (y42 : Bool) (y51 : Bool) (S : HS) : Option ((Int × Bool) × HS) :=
  (if y35 = true then
  (if y42 = true then
  J1 k y31 y35 true S else
  J1 k y31 y35 y51 S) else
  J2 k y31 false S)
theorem J3_snd {k : Nat}  {y31 : Int} {y35 : Bool} {y42 : Bool} {y51 : Bool} {S : HS} {p : (Int × Bool) × HS} {g0 g1 g2 g3 g4 g5 g6 g7 g8 g9 g10 g11 g12 g13 g14 g15 g16 g17 g18 g19 g20 g21 g22 g23 g24 g25 g26 g27 g28 g29 g30 g32 g33 g34 g36 g37 g38 g39 g40 g41 g43 g44 g45 g46 g47 g48 g49 g50 g52 g53 : HV} (h : J3 k y31 y35 y42 y51 S = some p) : HRun Try.prog base W0 β0 26 none [.inRegion r24 [21, 22, 23, 24], .code c25] ⟨[g0, g1, g2, g3, g4, g5, g6, g7, g8, g9, g10, g11, g12, g13, g14, g15, g16, g17, g18, g19, g20, g21, g22, g23, g24, g25, g26, g27, g28, g29, g30, (.int .i64 y31), g32, g33, g34, (.bool y35), g36, g37, g38, g39, g40, g41, (.bool y42), g43, g44, g45, g46, g47, g48, g49, g50, (.bool y51), g52, g53], []⟩ S (fun v S1 => v = (.tup [(.int .i64 p.1.1), (.bool p.1.2)]) ∧ S1 = p.2) := by
  unfold J3 at h
  rcases ifc h with ⟨hc16, h⟩ | ⟨hc16, h⟩
  · rcases ifc h with ⟨hc17, h⟩ | ⟨hc17, h⟩
    · refine q_op_g (t := 35) (dst := some 52) rfl rfl rfl hc16 (fun _ ho => ok_pick_tt ho (.tmp rfl) hc17 (.bool _)) ?_
      try dsimp only [HAct.put, List.set_cons_zero, List.set_cons_succ]
      exact J1_snd  h
    · refine q_op_g (t := 35) (dst := some 52) rfl rfl rfl hc16 (fun _ ho => ok_pick_ff ho (.tmp rfl) (bfalse hc17) (.tmp rfl)) ?_
      try dsimp only [HAct.put, List.set_cons_zero, List.set_cons_succ]
      exact J1_snd  h
  · refine q_skip (dst := some 52) (t := 35) rfl rfl rfl (bfalse hc16) ?_
    refine q_op (dst := some 53) rfl (fun _ ho => ok_pick_ff ho (.tmp rfl) (bfalse hc16) (.bool _)) ?_
    try dsimp only [HAct.put, List.set_cons_zero, List.set_cons_succ]
    exact J2_snd  h
def L0 (k : Nat) : Nat → Sl → Int → Int → Int → Int → HS → Option ((Int × Bool) × HS)
  | 0, _, _, _, _, _, _ => none
  | n + 1, y0, y1, y6, y7, y8, S =>
    (if y7 < y8 then
    (Option.bind (HS.idx S y0 (w64 (Int.fdiv (IntKind.wrap .u64 (w64 (y7 + y8))) (2 ^ (min (Int.toNat 1) (IntKind.bits .u64))))) 1) fun p2 =>
    (Option.bind (HS.ldI S .i64 p2) fun p3 =>
    (Option.bind (cmp_Less_int.f p3 y1) fun p4 =>
    (if p4 = true then
    (L0 k n) y0 y1 y6 (w64 ((w64 (Int.fdiv (IntKind.wrap .u64 (w64 (y7 + y8))) (2 ^ (min (Int.toNat 1) (IntKind.bits .u64))))) + 1)) y8 S else
    (L0 k n) y0 y1 y6 y7 (w64 (Int.fdiv (IntKind.wrap .u64 (w64 (y7 + y8))) (2 ^ (min (Int.toNat 1) (IntKind.bits .u64))))) S)))) else
    (if y7 < y6 then
    (Option.bind (HS.idx S y0 y7 1) fun p7 =>
    (Option.bind (HS.ldI S .i64 p7) fun p8 =>
    (if p8 = y1 then
    J1 k y7 (decide (y7 < y6)) true S else
    (Option.bind (HS.idx S y0 y7 1) fun p11 =>
    (Option.bind (HS.ldI S .i64 p11) fun p12 =>
    (Option.bind (slices_isNaN_int.f p12) fun p13 =>
    (if p13 = true then
    (Option.bind (slices_isNaN_int.f y1) fun p15 =>
    J3 k y7 (decide (y7 < y6)) (decide (p8 = y1)) p15 S) else
    J3 k y7 (decide (y7 < y6)) (decide (p8 = y1)) false S))))))) else
    J2 k y7 false S))
theorem L0_snd {k : Nat}  : ∀ {n : Nat} ⦃y0 : Sl⦄ ⦃y1 : Int⦄ ⦃y6 : Int⦄ ⦃y7 : Int⦄ ⦃y8 : Int⦄ ⦃S : HS⦄ ⦃p : (Int × Bool) × HS⦄ ⦃g2 g3 g4 g5 g9 g10 g11 g12 g13 g14 g15 g16 g17 g18 g19 g20 g21 g22 g23 g24 g25 g26 g27 g28 g29 g30 g31 g32 g33 g34 g35 g36 g37 g38 g39 g40 g41 g42 g43 g44 g45 g46 g47 g48 g49 g50 g51 g52 g53 : HV⦄, L0 k n y0 y1 y6 y7 y8 S = some p → HRun Try.prog base W0 β0 26 none [.inLoop c9, .inBlock 0, .code c23] ⟨[(Sl.hv y0), (.int .i64 y1), g2, g3, g4, g5, (.int .i64 y6), (.int .i64 y7), (.int .i64 y8), g9, g10, g11, g12, g13, g14, g15, g16, g17, g18, g19, g20, g21, g22, g23, g24, g25, g26, g27, g28, g29, g30, g31, g32, g33, g34, g35, g36, g37, g38, g39, g40, g41, g42, g43, g44, g45, g46, g47, g48, g49, g50, g51, g52, g53], []⟩ S (fun v S1 => v = (.tup [(.int .i64 p.1.1), (.bool p.1.2)]) ∧ S1 = p.2) := by
  intro n
  induction n with
  | zero => intro _ _ _ _ _ _ _ _ _ _ _ _ _ _ _ _ _ _ _ _ _ _ _ _ _ _ _ _ _ _ _ _ _ _ _ _ _ _ _ _ _ _ _ _ _ _ _ _ _ _ _ _ _ _ _ _ h; cases h
  | succ n ih =>
    intro y0 y1 y6 y7 y8 S p g2 g3 g4 g5 g9 g10 g11 g12 g13 g14 g15 g16 g17 g18 g19 g20 g21 g22 g23 g24 g25 g26 g27 g28 g29 g30 g31 g32 g33 g34 g35 g36 g37 g38 g39 g40 g41 g42 g43 g44 g45 g46 g47 g48 g49 g50 g51 g52 g53 h
    simp only [L0] at h
    refine hr_inLoop ?_
    refine q_seq e9 ?_
    refine q_seq e10 ?_
    refine q_region e11 rfl ?_
    refine q_op (dst := some 13) rfl (fun _ ho => ok_move ho (.tmp rfl)) ?_
    refine q_op (dst := some 14) rfl (fun _ ho => ok_move ho (.tmp rfl)) ?_
    refine q_op (dst := some 15) rfl (fun _ ho => ok_ibin ho (.tmp rfl) (.tmp rfl) rfl) ?_
    refine hr_region_end ?_
    try dsimp only [HAct.put, List.set_cons_zero, List.set_cons_succ]
    rcases ifc h with ⟨hc1, h⟩ | ⟨hc1, h⟩
    · refine q_cond_t e12 (.tmp rfl) (decide_eq_true hc1) ?_
      refine q_skipc e13 ?_
      refine q_block e15 ?_
      refine q_seq e16 ?_
      refine q_region e17 rfl ?_
      refine q_op (dst := some 16) rfl (fun _ ho => ok_move ho (.tmp rfl)) ?_
      refine q_op (dst := some 17) rfl (fun _ ho => ok_move ho (.tmp rfl)) ?_
      refine q_op (dst := some 18) rfl (fun _ ho => ok_ibin ho (.tmp rfl) (.tmp rfl) rfl) ?_
      refine q_op (dst := some 19) rfl (fun _ ho => ok_conv_int ho tu3 tu57 (.tmp rfl)) ?_
      try dsimp only [HAct.put, List.set_cons_zero, List.set_cons_succ]
      refine q_op (dst := some 20) rfl (fun _ ho => ok_shr ho (.tmp rfl) (.int _ _) (by decide)) ?_
      refine q_op (dst := some 21) rfl (fun _ ho => ok_conv_int ho tu57 tu3 (.tmp rfl)) ?_
      refine q_op (dst := some 9) rfl (fun _ ho => ok_assign ho (.tmp rfl)) ?_
      refine hr_region_end ?_
      try dsimp only [HAct.put, List.set_cons_zero, List.set_cons_succ]
      refine q_seq e18 ?_
      refine q_region e19 rfl ?_
      refine q_op (dst := some 22) rfl (fun _ ho => ok_move ho (.tmp rfl)) ?_
      refine q_op (dst := some 23) rfl (fun _ ho => ok_move ho (.tmp rfl)) ?_
      obtain ⟨p2, hp2, h⟩ := bindo h
      refine q_op (dst := some 24) rfl (fun _ ho => ok_indexAddr (s := y0) ho tu24 sz3 (.tmp rfl) (.tmp rfl) hp2) ?_
      obtain ⟨p3, hp3, h⟩ := bindo h
      refine q_op (dst := some 25) rfl (fun _ ho => ok_load_s ho sc3 (.tmp rfl) rfl (ldI_out hp3)) ?_
      try dsimp only [HAct.put, List.set_cons_zero, List.set_cons_succ]
      refine q_op (dst := some 26) rfl (fun _ ho => ok_move ho (.tmp rfl)) ?_
      obtain ⟨p4, hp4, h⟩ := bindo h
      refine q_call (dst := some 27) rfl (.func _) (.cons (.tmp rfl) (.cons (.tmp rfl) Evs.nil)) (HInv.static cmp_Less_int.at_ cmp_Less_int.body (cmp_Less_int.snd  hp4)) ?_
      rintro _ _ ⟨rfl, rfl⟩
      refine hr_region_end ?_
      try dsimp only [HAct.put, List.set_cons_zero, List.set_cons_succ]
      rcases ifc h with ⟨hc5, h⟩ | ⟨hc5, h⟩
      · refine q_cond_t e20 (.tmp rfl) hc5 ?_
        refine q_region e21 rfl ?_
        refine q_op (dst := some 28) rfl (fun _ ho => ok_move ho (.tmp rfl)) ?_
        refine q_op (dst := some 29) rfl (fun _ ho => ok_ibin ho (.tmp rfl) (.int _ _) rfl) ?_
        refine q_op (dst := some 7) rfl (fun _ ho => ok_assign ho (.tmp rfl)) ?_
        refine hr_region_end ?_
        try dsimp only [HAct.put, List.set_cons_zero, List.set_cons_succ]
        refine hr_inBlock ?_
        try dsimp only [HAct.put, List.set_cons_zero, List.set_cons_succ]
        exact ih h
      · refine q_cond_f e20 (.tmp rfl) (bfalse hc5) ?_
        refine q_region e22 rfl ?_
        refine q_op (dst := some 30) rfl (fun _ ho => ok_move ho (.tmp rfl)) ?_
        refine q_op (dst := some 8) rfl (fun _ ho => ok_assign ho (.tmp rfl)) ?_
        refine hr_region_end ?_
        try dsimp only [HAct.put, List.set_cons_zero, List.set_cons_succ]
        refine hr_inBlock ?_
        try dsimp only [HAct.put, List.set_cons_zero, List.set_cons_succ]
        exact ih h
    · refine q_cond_f e12 (.tmp rfl) (decide_eq_false hc1) ?_
      refine q_exit e14 rfl ?_
      refine q_seq e23 ?_
      refine q_region e24 rfl ?_
      refine q_op (dst := some 31) rfl (fun _ ho => ok_move ho (.tmp rfl)) ?_
      refine q_op (dst := some 32) rfl (fun _ ho => ok_move ho (.tmp rfl)) ?_
      refine q_op (dst := some 33) rfl (fun _ ho => ok_move ho (.tmp rfl)) ?_
      refine q_op (dst := some 34) rfl (fun _ ho => ok_ibin ho (.tmp rfl) (.tmp rfl) rfl) ?_
      try dsimp only [HAct.put, List.set_cons_zero, List.set_cons_succ]
      refine q_op (dst := some 35) rfl (fun _ ho => ok_move ho (.tmp rfl)) ?_
      rcases ifc h with ⟨hc6, h⟩ | ⟨hc6, h⟩
      · refine q_op_g (t := 35) (dst := some 36) rfl rfl rfl (decide_eq_true hc6) (fun _ ho => ok_move ho (.tmp rfl)) ?_
        refine q_op_g (t := 35) (dst := some 37) rfl rfl rfl (decide_eq_true hc6) (fun _ ho => ok_move ho (.tmp rfl)) ?_
        obtain ⟨p7, hp7, h⟩ := bindo h
        refine q_op_g (t := 35) (dst := some 38) rfl rfl rfl (decide_eq_true hc6) (fun _ ho => ok_indexAddr (s := y0) ho tu24 sz3 (.tmp rfl) (.tmp rfl) hp7) ?_
        try dsimp only [HAct.put, List.set_cons_zero, List.set_cons_succ]
        obtain ⟨p8, hp8, h⟩ := bindo h
        refine q_op_g (t := 35) (dst := some 39) rfl rfl rfl (decide_eq_true hc6) (fun _ ho => ok_load_s ho sc3 (.tmp rfl) rfl (ldI_out hp8)) ?_
        refine q_op_g (t := 35) (dst := some 40) rfl rfl rfl (decide_eq_true hc6) (fun _ ho => ok_move ho (.tmp rfl)) ?_
        refine q_op_g (t := 35) (dst := some 41) rfl rfl rfl (decide_eq_true hc6) (fun _ ho => ok_ibin ho (.tmp rfl) (.tmp rfl) rfl) ?_
        refine q_op_g (t := 35) (dst := some 42) rfl rfl rfl (decide_eq_true hc6) (fun _ ho => ok_move ho (.tmp rfl)) ?_
        try dsimp only [HAct.put, List.set_cons_zero, List.set_cons_succ]
        rcases ifc h with ⟨hc9, h⟩ | ⟨hc9, h⟩
        · refine q_skip (dst := some 43) (t := 42) rfl rfl rfl (decide_eq_true hc9) ?_
          refine q_skip (dst := some 44) (t := 42) rfl rfl rfl (decide_eq_true hc9) ?_
          refine q_skip (dst := some 45) (t := 42) rfl rfl rfl (decide_eq_true hc9) ?_
          refine q_skip (dst := some 46) (t := 42) rfl rfl rfl (decide_eq_true hc9) ?_
          try dsimp only [HAct.put, List.set_cons_zero, List.set_cons_succ]
          refine q_skip (dst := some 47) (t := 42) rfl rfl rfl (decide_eq_true hc9) ?_
          refine q_skip (dst := some 48) (t := 42) rfl rfl rfl (decide_eq_true hc9) ?_
          refine q_skip_u (dst := some 49) (t := 48) rfl rfl rfl ?_
          refine q_skip_u (dst := some 50) (t := 48) rfl rfl rfl ?_
          try dsimp only [HAct.put, List.set_cons_zero, List.set_cons_succ]
          refine q_skip (dst := some 51) (t := 42) rfl rfl rfl (decide_eq_true hc9) ?_
          refine q_op_g (t := 35) (dst := some 52) rfl rfl rfl (decide_eq_true hc6) (fun _ ho => ok_pick_tt ho (.tmp rfl) (decide_eq_true hc9) (.bool _)) ?_
          try dsimp only [HAct.put, List.set_cons_zero, List.set_cons_succ]
          exact J1_snd  h
        · refine q_op_g (t := 42) (dst := some 43) rfl rfl rfl (decide_eq_false hc9) (fun _ ho => ok_move ho (.tmp rfl)) ?_
          refine q_op_g (t := 42) (dst := some 44) rfl rfl rfl (decide_eq_false hc9) (fun _ ho => ok_move ho (.tmp rfl)) ?_
          obtain ⟨p11, hp11, h⟩ := bindo h
          refine q_op_g (t := 42) (dst := some 45) rfl rfl rfl (decide_eq_false hc9) (fun _ ho => ok_indexAddr (s := y0) ho tu24 sz3 (.tmp rfl) (.tmp rfl) hp11) ?_
          obtain ⟨p12, hp12, h⟩ := bindo h
          refine q_op_g (t := 42) (dst := some 46) rfl rfl rfl (decide_eq_false hc9) (fun _ ho => ok_load_s ho sc3 (.tmp rfl) rfl (ldI_out hp12)) ?_
          try dsimp only [HAct.put, List.set_cons_zero, List.set_cons_succ]
          obtain ⟨p13, hp13, h⟩ := bindo h
          refine q_call_g (t := 42) (dst := some 47) rfl rfl rfl (decide_eq_false hc9) (.func _) (.cons (.tmp rfl) Evs.nil) (HInv.static slices_isNaN_int.at_ slices_isNaN_int.body (slices_isNaN_int.snd  hp13)) ?_
          rintro _ _ ⟨rfl, rfl⟩
          refine q_op_g (t := 42) (dst := some 48) rfl rfl rfl (decide_eq_false hc9) (fun _ ho => ok_move ho (.tmp rfl)) ?_
          rcases ifc h with ⟨hc14, h⟩ | ⟨hc14, h⟩
          · refine q_op_g (t := 48) (dst := some 49) rfl rfl rfl hc14 (fun _ ho => ok_move ho (.tmp rfl)) ?_
            obtain ⟨p15, hp15, h⟩ := bindo h
            refine q_call_g (t := 48) (dst := some 50) rfl rfl rfl hc14 (.func _) (.cons (.tmp rfl) Evs.nil) (HInv.static slices_isNaN_int.at_ slices_isNaN_int.body (slices_isNaN_int.snd  hp15)) ?_
            rintro _ _ ⟨rfl, rfl⟩
            try dsimp only [HAct.put, List.set_cons_zero, List.set_cons_succ]
            refine q_op_g (t := 42) (dst := some 51) rfl rfl rfl (decide_eq_false hc9) (fun _ ho => ok_pick_tt ho (.tmp rfl) hc14 (.tmp rfl)) ?_
            try dsimp only [HAct.put, List.set_cons_zero, List.set_cons_succ]
            exact J3_snd  h
          · refine q_skip (dst := some 49) (t := 48) rfl rfl rfl (bfalse hc14) ?_
            refine q_skip (dst := some 50) (t := 48) rfl rfl rfl (bfalse hc14) ?_
            try dsimp only [HAct.put, List.set_cons_zero, List.set_cons_succ]
            refine q_op_g (t := 42) (dst := some 51) rfl rfl rfl (decide_eq_false hc9) (fun _ ho => ok_pick_ff ho (.tmp rfl) (bfalse hc14) (.bool _)) ?_
            try dsimp only [HAct.put, List.set_cons_zero, List.set_cons_succ]
            exact J3_snd  h
      · refine q_skip (dst := some 36) (t := 35) rfl rfl rfl (decide_eq_false hc6) ?_
        refine q_skip (dst := some 37) (t := 35) rfl rfl rfl (decide_eq_false hc6) ?_
        refine q_skip (dst := some 38) (t := 35) rfl rfl rfl (decide_eq_false hc6) ?_
        try dsimp only [HAct.put, List.set_cons_zero, List.set_cons_succ]
        refine q_skip (dst := some 39) (t := 35) rfl rfl rfl (decide_eq_false hc6) ?_
        refine q_skip (dst := some 40) (t := 35) rfl rfl rfl (decide_eq_false hc6) ?_
        refine q_skip (dst := some 41) (t := 35) rfl rfl rfl (decide_eq_false hc6) ?_
        refine q_skip (dst := some 42) (t := 35) rfl rfl rfl (decide_eq_false hc6) ?_
        try dsimp only [HAct.put, List.set_cons_zero, List.set_cons_succ]
        refine q_skip_u (dst := some 43) (t := 42) rfl rfl rfl ?_
        refine q_skip_u (dst := some 44) (t := 42) rfl rfl rfl ?_
        refine q_skip_u (dst := some 45) (t := 42) rfl rfl rfl ?_
        refine q_skip_u (dst := some 46) (t := 42) rfl rfl rfl ?_
        try dsimp only [HAct.put, List.set_cons_zero, List.set_cons_succ]
        refine q_skip_u (dst := some 47) (t := 42) rfl rfl rfl ?_
        refine q_skip_u (dst := some 48) (t := 42) rfl rfl rfl ?_
        refine q_skip_u (dst := some 49) (t := 48) rfl rfl rfl ?_
        refine q_skip_u (dst := some 50) (t := 48) rfl rfl rfl ?_
        try dsimp only [HAct.put, List.set_cons_zero, List.set_cons_succ]
        refine q_skip_u (dst := some 51) (t := 42) rfl rfl rfl ?_
        refine q_skip (dst := some 52) (t := 35) rfl rfl rfl (decide_eq_false hc6) ?_
        refine q_op (dst := some 53) rfl (fun _ ho => ok_pick_ff ho (.tmp rfl) (decide_eq_false hc6) (.bool _)) ?_
        try dsimp only [HAct.put, List.set_cons_zero, List.set_cons_succ]
        exact J2_snd  h
def f (k : Nat) (x0 : Sl) (x1 : Int) (S : HS) : Option ((Int × Bool) × HS) :=
  L0 k k x0 x1 (Sl.len x0 : Int) 0 (Sl.len x0 : Int) S
theorem snd {k : Nat} {x0 : Sl} {x1 : Int} {S : HS}  {p : (Int × Bool) × HS} (h : f k x0 x1 S = some p) : HCall Try.prog base W0 β0 26 [(Sl.hv x0), (.int .i64 x1)] S (fun v S1 => v = (.tup [(.int .i64 p.1.1), (.bool p.1.2)]) ∧ S1 = p.2) := by
  unfold f at h
  refine HCall.of_run at_.at_ body ?_
  show HRun Try.prog base W0 β0 26 none [.code c0] ⟨[(Sl.hv x0), (.int .i64 x1), .tup [], .tup [], .tup [], .tup [], .tup [], .tup [], .tup [], .tup [], .tup [], .tup [], .tup [], .tup [], .tup [], .tup [], .tup [], .tup [], .tup [], .tup [], .tup [], .tup [], .tup [], .tup [], .tup [], .tup [], .tup [], .tup [], .tup [], .tup [], .tup [], .tup [], .tup [], .tup [], .tup [], .tup [], .tup [], .tup [], .tup [], .tup [], .tup [], .tup [], .tup [], .tup [], .tup [], .tup [], .tup [], .tup [], .tup [], .tup [], .tup [], .tup [], .tup [], .tup []], []⟩ S _
  refine q_seq e0 ?_
  refine q_region e1 rfl ?_
  refine q_op (dst := some 4) rfl (fun _ ho => ok_assign ho (.int _ _)) ?_
  refine q_op (dst := some 5) rfl (fun _ ho => ok_assign ho (.bool _)) ?_
  refine hr_region_end ?_
  try dsimp only [HAct.put, List.set_cons_zero, List.set_cons_succ]
  refine q_seq e2 ?_
  refine q_region e3 rfl ?_
  refine q_op (dst := some 10) rfl (fun _ ho => ok_move ho (.tmp rfl)) ?_
  refine q_op (dst := some 11) rfl (fun _ ho => ok_len_sl (q := Sl.a x0) (n := Sl.len x0) (z := Sl.cap x0) ho rfl tu24 (.tmp rfl)) ?_
  refine q_op (dst := some 6) rfl (fun _ ho => ok_assign ho (.tmp rfl)) ?_
  refine hr_region_end ?_
  try dsimp only [HAct.put, List.set_cons_zero, List.set_cons_succ]
  refine q_seq e4 ?_
  refine q_region e5 rfl ?_
  refine q_op (dst := some 12) rfl (fun _ ho => ok_move ho (.tmp rfl)) ?_
  refine q_op (dst := some 7) rfl (fun _ ho => ok_assign ho (.int _ _)) ?_
  refine q_op (dst := some 8) rfl (fun _ ho => ok_assign ho (.tmp rfl)) ?_
  refine hr_region_end ?_
  try dsimp only [HAct.put, List.set_cons_zero, List.set_cons_succ]
  refine q_seq e6 ?_
  refine q_block e7 ?_
  refine q_loop e8 ?_
  try dsimp only [HAct.put, List.set_cons_zero, List.set_cons_succ]
  exact L0_snd  h
end
end slices_BinarySearch_int_int
namespace slices_Reverse_int_int
abbrev id : Nat := 38
theorem at_ : FnAt Try.prog 38 Try.f38 := ⟨Try.func38, by kernel_rfl⟩
noncomputable def c0 : Code := (Try.f38.body).getD .skip
noncomputable def c1 : Code := match c0 with | .seq x _ => x | _ => .skip
noncomputable def c2 : Code := match c0 with | .seq _ x => x | _ => .skip
noncomputable def c3 : Code := match c2 with | .block _ x => x | _ => .skip
noncomputable def c4 : Code := match c3 with | .loop x => x | _ => .skip
noncomputable def c5 : Code := match c4 with | .seq x _ => x | _ => .skip
noncomputable def c6 : Code := match c5 with | .seq x _ => x | _ => .skip
noncomputable def c7 : Code := match c5 with | .seq _ x => x | _ => .skip
noncomputable def c8 : Code := match c7 with | .cond _ x _ => x | _ => .skip
noncomputable def c9 : Code := match c7 with | .cond _ _ x => x | _ => .skip
noncomputable def c10 : Code := match c4 with | .seq _ x => x | _ => .skip
noncomputable def c11 : Code := match c10 with | .seq x _ => x | _ => .skip
noncomputable def c12 : Code := match c11 with | .block _ x => x | _ => .skip
noncomputable def c13 : Code := match c10 with | .seq _ x => x | _ => .skip
theorem e0 : c0 = .seq c1 c2 := by kernel_rfl
noncomputable def r1 : Array Oper := match c1 with | .region _ x _ => x | _ => #[]
theorem e1 : c1 = .region 0 r1 false := by kernel_rfl
theorem e2 : c2 = .block 0 c3 := by kernel_rfl
theorem e3 : c3 = .loop c4 := by kernel_rfl
theorem e4 : c4 = .seq c5 c10 := by kernel_rfl
theorem e5 : c5 = .seq c6 c7 := by kernel_rfl
noncomputable def r6 : Array Oper := match c6 with | .region _ x _ => x | _ => #[]
theorem e6 : c6 = .region 1 r6 false := by kernel_rfl
theorem e7 : c7 = .cond (.tmp 9) c8 c9 := by kernel_rfl
theorem e8 : c8 = .skip := by kernel_rfl
theorem e9 : c9 = .exit 0 := by kernel_rfl
theorem e10 : c10 = .seq c11 c13 := by kernel_rfl
theorem e11 : c11 = .block 1 c12 := by kernel_rfl
noncomputable def r12 : Array Oper := match c12 with | .region _ x _ => x | _ => #[]
theorem e12 : c12 = .region 3 r12 true := by kernel_rfl
noncomputable def r13 : Array Oper := match c13 with | .region _ x _ => x | _ => #[]
theorem e13 : c13 = .region 2 r13 false := by kernel_rfl
theorem body : Try.f38.body = some c0 := by kernel_rfl
section
variable {base : Nat} {W0 : World} {β0 : Bt}
def L0 (k : Nat) : Nat → Sl → Int → Int → HS → Option ((Unit) × HS)
  | 0, _, _, _, _ => none
  | n + 1, y0, y2, y3, S =>
    (if y2 < y3 then
    (Option.bind (HS.idx S y0 y3 1) fun p2 =>
    (Option.bind (HS.ldI S .i64 p2) fun p3 =>
    (Option.bind (HS.idx S y0 y2 1) fun p4 =>
    (Option.bind (HS.ldI S .i64 p4) fun p5 =>
    (Option.bind (HS.idx S y0 y2 1) fun p6 =>
    (Option.bind (HS.sets S p6 [(.int .i64 p3)]) fun p7 =>
    (Option.bind (HS.idx p7 y0 y3 1) fun p8 =>
    (Option.bind (HS.sets p7 p8 [(.int .i64 p5)]) fun p9 =>
    (L0 k n) y0 (w64 (y2 + 1)) (w64 (y3 - 1)) p9)))))))) else
    some ((), S))
theorem L0_snd {k : Nat}  : ∀ {n : Nat} ⦃y0 : Sl⦄ ⦃y2 : Int⦄ ⦃y3 : Int⦄ ⦃S : HS⦄ ⦃p : (Unit) × HS⦄ ⦃g1 g4 g5 g6 g7 g8 g9 g10 g11 g12 g13 g14 g15 g16 g17 g18 g19 g20 g21 g22 g23 g24 g25 g26 g27 : HV⦄, L0 k n y0 y2 y3 S = some p → HRun Try.prog base W0 β0 38 none [.inLoop c4, .inBlock 0] ⟨[(Sl.hv y0), g1, (.int .i64 y2), (.int .i64 y3), g4, g5, g6, g7, g8, g9, g10, g11, g12, g13, g14, g15, g16, g17, g18, g19, g20, g21, g22, g23, g24, g25, g26, g27], []⟩ S (fun v S1 => v = (.tup []) ∧ S1 = p.2) := by
  intro n
  induction n with
  | zero => intro _ _ _ _ _ _ _ _ _ _ _ _ _ _ _ _ _ _ _ _ _ _ _ _ _ _ _ _ _ _ h; cases h
  | succ n ih =>
    intro y0 y2 y3 S p g1 g4 g5 g6 g7 g8 g9 g10 g11 g12 g13 g14 g15 g16 g17 g18 g19 g20 g21 g22 g23 g24 g25 g26 g27 h
    simp only [L0] at h
    refine hr_inLoop ?_
    refine q_seq e4 ?_
    refine q_seq e5 ?_
    refine q_region e6 rfl ?_
    refine q_op (dst := some 7) rfl (fun _ ho => ok_move ho (.tmp rfl)) ?_
    refine q_op (dst := some 8) rfl (fun _ ho => ok_move ho (.tmp rfl)) ?_
    refine q_op (dst := some 9) rfl (fun _ ho => ok_ibin ho (.tmp rfl) (.tmp rfl) rfl) ?_
    refine hr_region_end ?_
    try dsimp only [HAct.put, List.set_cons_zero, List.set_cons_succ]
    rcases ifc h with ⟨hc1, h⟩ | ⟨hc1, h⟩
    · refine q_cond_t e7 (.tmp rfl) (decide_eq_true hc1) ?_
      refine q_skipc e8 ?_
      refine q_seq e10 ?_
      refine q_block e11 ?_
      refine x_start (cls := [0, 0, 0, 0, 0, 0, 1, 1, 0, 0, 1, 1, 1, 2, 1, 2]) (rk := [0, 1, 12, 13, 2, 3, 4, 5, 6, 7, 8, 9, 10, 11, 14, 15]) e12 (by kernel_rfl) ?_
      refine x_go (f_op (dst := some 14) (ts := [0]) rfl (by intro _ _ h; cases h) (by kernel_rfl) (fun _ _ ho => ok_move ho (.tmp rfl))) rfl ?_
      refine x_go (f_op (dst := some 15) (ts := [2]) rfl (by intro _ _ h; cases h) (by kernel_rfl) (fun _ _ ho => ok_move ho (.tmp rfl))) rfl ?_
      refine x_go (f_op (dst := some 16) (ts := [0]) rfl (by intro _ _ h; cases h) (by kernel_rfl) (fun _ _ ho => ok_move ho (.tmp rfl))) rfl ?_
      refine x_go (f_op (dst := some 17) (ts := [3]) rfl (by intro _ _ h; cases h) (by kernel_rfl) (fun _ _ ho => ok_move ho (.tmp rfl))) rfl ?_
      try dsimp only [HAct.put, List.set_cons_zero, List.set_cons_succ]
      refine x_go (f_op (dst := some 18) (ts := [0]) rfl (by intro _ _ h; cases h) (by kernel_rfl) (fun _ _ ho => ok_move ho (.tmp rfl))) rfl ?_
      refine x_go (f_op (dst := some 19) (ts := [3]) rfl (by intro _ _ h; cases h) (by kernel_rfl) (fun _ _ ho => ok_move ho (.tmp rfl))) rfl ?_
      obtain ⟨p2, hp2, h⟩ := bindo h
      refine x_go (r_op (dst := some 20) (ts := [18, 19]) rfl (by intro _ _ h; cases h) (by kernel_rfl) (fun _ ho => ok_indexAddr (s := y0) ho tu24 sz3 (.tmp rfl) (.tmp rfl) hp2)) rfl ?_
      obtain ⟨p3, hp3, h⟩ := bindo h
      refine x_go (r_op (dst := some 21) (ts := [20]) rfl (by intro _ _ h; cases h) (by kernel_rfl) (fun _ ho => ok_load_s ho sc3 (.tmp rfl) rfl (ldI_out hp3))) rfl ?_
      try dsimp only [HAct.put, List.set_cons_zero, List.set_cons_succ]
      refine x_go (f_op (dst := some 22) (ts := [0]) rfl (by intro _ _ h; cases h) (by kernel_rfl) (fun _ _ ho => ok_move ho (.tmp rfl))) rfl ?_
      refine x_go (f_op (dst := some 23) (ts := [2]) rfl (by intro _ _ h; cases h) (by kernel_rfl) (fun _ _ ho => ok_move ho (.tmp rfl))) rfl ?_
      obtain ⟨p4, hp4, h⟩ := bindo h
      refine x_go (r_op (dst := some 24) (ts := [22, 23]) rfl (by intro _ _ h; cases h) (by kernel_rfl) (fun _ ho => ok_indexAddr (s := y0) ho tu24 sz3 (.tmp rfl) (.tmp rfl) hp4)) rfl ?_
      obtain ⟨p5, hp5, h⟩ := bindo h
      refine x_go (r_op (dst := some 25) (ts := [24]) rfl (by intro _ _ h; cases h) (by kernel_rfl) (fun _ ho => ok_load_s ho sc3 (.tmp rfl) rfl (ldI_out hp5))) rfl ?_
      try dsimp only [HAct.put, List.set_cons_zero, List.set_cons_succ]
      obtain ⟨p6, hp6, h⟩ := bindo h
      refine x_go (r_op (dst := some 26) (ts := [14, 15]) rfl (by intro _ _ h; cases h) (by kernel_rfl) (fun _ ho => ok_indexAddr (s := y0) ho tu24 sz3 (.tmp rfl) (.tmp rfl) hp6)) rfl ?_
      obtain ⟨p7, hp7, h⟩ := bindo h
      refine x_go (e_op (dst := none) (ts := [26, 21]) rfl (by intro _ _ h; cases h) (by kernel_rfl) (fun _ ho => ok_store_s (v := (.int .i64 p3)) ho sz3 (.tmp rfl) rfl (.tmp rfl) rfl hp7)) rfl ?_
      obtain ⟨p8, hp8, h⟩ := bindo h
      refine x_go (r_op (dst := some 27) (ts := [16, 17]) rfl (by intro _ _ h; cases h) (by kernel_rfl) (fun _ ho => ok_indexAddr (s := y0) ho tu24 sz3 (.tmp rfl) (.tmp rfl) hp8)) rfl ?_
      obtain ⟨p9, hp9, h⟩ := bindo h
      refine x_go (e_op (dst := none) (ts := [27, 25]) rfl (by intro _ _ h; cases h) (by kernel_rfl) (fun _ ho => ok_store_s (v := (.int .i64 p5)) ho sz3 (.tmp rfl) rfl (.tmp rfl) rfl hp9)) rfl ?_
      refine x_rest rfl ?_
      refine hr_region_end ?_
      try dsimp only [HAct.put, List.set_cons_zero, List.set_cons_succ]
      refine hr_inBlock ?_
      refine q_region e13 rfl ?_
      refine q_op (dst := some 10) rfl (fun _ ho => ok_move ho (.tmp rfl)) ?_
      refine q_op (dst := some 11) rfl (fun _ ho => ok_ibin ho (.tmp rfl) (.int _ _) rfl) ?_
      refine q_op (dst := some 12) rfl (fun _ ho => ok_move ho (.tmp rfl)) ?_
      refine q_op (dst := some 13) rfl (fun _ ho => ok_ibin ho (.tmp rfl) (.int _ _) rfl) ?_
      try dsimp only [HAct.put, List.set_cons_zero, List.set_cons_succ]
      refine q_op (dst := some 2) rfl (fun _ ho => ok_assign ho (.tmp rfl)) ?_
      refine q_op (dst := some 3) rfl (fun _ ho => ok_assign ho (.tmp rfl)) ?_
      refine hr_region_end ?_
      try dsimp only [HAct.put, List.set_cons_zero, List.set_cons_succ]
      try dsimp only [HAct.put, List.set_cons_zero, List.set_cons_succ]
      exact ih h
    · refine q_cond_f e7 (.tmp rfl) (decide_eq_false hc1) ?_
      refine q_exit e9 rfl ?_
      cases h
      exact q_end at_.at_ rfl (res0 rfl) ⟨rfl, rfl⟩
def f (k : Nat) (x0 : Sl) (S : HS) : Option ((Unit) × HS) :=
  L0 k k x0 0 (w64 ((Sl.len x0 : Int) - 1)) S
theorem snd {k : Nat} {x0 : Sl} {S : HS}  {p : (Unit) × HS} (h : f k x0 S = some p) : HCall Try.prog base W0 β0 38 [(Sl.hv x0)] S (fun v S1 => v = (.tup []) ∧ S1 = p.2) := by
  unfold f at h
  refine HCall.of_run at_.at_ body ?_
  show HRun Try.prog base W0 β0 38 none [.code c0] ⟨[(Sl.hv x0), .tup [], .tup [], .tup [], .tup [], .tup [], .tup [], .tup [], .tup [], .tup [], .tup [], .tup [], .tup [], .tup [], .tup [], .tup [], .tup [], .tup [], .tup [], .tup [], .tup [], .tup [], .tup [], .tup [], .tup [], .tup [], .tup [], .tup []], []⟩ S _
  refine q_seq e0 ?_
  refine q_region e1 rfl ?_
  refine q_op (dst := some 4) rfl (fun _ ho => ok_move ho (.tmp rfl)) ?_
  refine q_op (dst := some 5) rfl (fun _ ho => ok_len_sl (q := Sl.a x0) (n := Sl.len x0) (z := Sl.cap x0) ho rfl tu24 (.tmp rfl)) ?_
  refine q_op (dst := some 6) rfl (fun _ ho => ok_ibin ho (.tmp rfl) (.int _ _) rfl) ?_
  refine q_op (dst := some 2) rfl (fun _ ho => ok_assign ho (.int _ _)) ?_
  try dsimp only [HAct.put, List.set_cons_zero, List.set_cons_succ]
  refine q_op (dst := some 3) rfl (fun _ ho => ok_assign ho (.tmp rfl)) ?_
  refine hr_region_end ?_
  try dsimp only [HAct.put, List.set_cons_zero, List.set_cons_succ]
  refine q_block e2 ?_
  refine q_loop e3 ?_
  try dsimp only [HAct.put, List.set_cons_zero, List.set_cons_succ]
  exact L0_snd  h
end
end slices_Reverse_int_int
namespace slices_rotateLeft_int
abbrev id : Nat := 37
theorem at_ : FnAt Try.prog 37 Try.f37 := ⟨Try.func37, by kernel_rfl⟩
noncomputable def c0 : Code := (Try.f37.body).getD .skip
noncomputable def c1 : Code := match c0 with | .seq x _ => x | _ => .skip
noncomputable def c2 : Code := match c0 with | .seq _ x => x | _ => .skip
noncomputable def c3 : Code := match c2 with | .seq x _ => x | _ => .skip
noncomputable def c4 : Code := match c2 with | .seq _ x => x | _ => .skip
theorem e0 : c0 = .seq c1 c2 := by kernel_rfl
noncomputable def r1 : Array Oper := match c1 with | .region _ x _ => x | _ => #[]
theorem e1 : c1 = .region 0 r1 false := by kernel_rfl
theorem e2 : c2 = .seq c3 c4 := by kernel_rfl
noncomputable def r3 : Array Oper := match c3 with | .region _ x _ => x | _ => #[]
theorem e3 : c3 = .region 1 r3 false := by kernel_rfl
noncomputable def r4 : Array Oper := match c4 with | .region _ x _ => x | _ => #[]
theorem e4 : c4 = .region 2 r4 false := by kernel_rfl
theorem body : Try.f37.body = some c0 := by kernel_rfl
section
variable {base : Nat} {W0 : World} {β0 : Bt}
def f (k : Nat) (x0 : Sl) (x1 : Int) (S : HS) : Option ((Unit) × HS) :=
  (Option.bind (HS.cut S x0 0 x1 1) fun p1 =>
  (Option.bind (slices_Reverse_int_int.f k p1 S) fun p2 =>
  (Option.bind (HS.cut p2.2 x0 x1 (Sl.len x0 : Int) 1) fun p3 =>
  (Option.bind (slices_Reverse_int_int.f k p3 p2.2) fun p4 =>
  (Option.bind (slices_Reverse_int_int.f k x0 p4.2) fun p5 =>
  some ((), p5.2))))))
theorem snd {k : Nat} {x0 : Sl} {x1 : Int} {S : HS}  {p : (Unit) × HS} (h : f k x0 x1 S = some p) : HCall Try.prog base W0 β0 37 [(Sl.hv x0), (.int .i64 x1)] S (fun v S1 => v = (.tup []) ∧ S1 = p.2) := by
  unfold f at h
  refine HCall.of_run at_.at_ body ?_
  show HRun Try.prog base W0 β0 37 none [.code c0] ⟨[(Sl.hv x0), (.int .i64 x1), .tup [], .tup [], .tup [], .tup [], .tup [], .tup [], .tup [], .tup [], .tup [], .tup [], .tup [], .tup []], []⟩ S _
  refine q_seq e0 ?_
  refine q_region e1 rfl ?_
  refine q_op (dst := some 4) rfl (fun _ ho => ok_move ho (.tmp rfl)) ?_
  refine q_op (dst := some 5) rfl (fun _ ho => ok_move ho (.tmp rfl)) ?_
  obtain ⟨p1, hp1, h⟩ := bindo h
  refine q_op (dst := some 6) rfl (fun _ ho => ok_slice (kl := .i64) (kh := .i64) (s := x0) (l := 0) (h := x1) ho tu24 si3 (.tmp rfl) (.inl ⟨rfl, rfl⟩) (.inr ⟨_, rfl, (.tmp rfl)⟩) hp1) ?_
  obtain ⟨p2, hp2, h⟩ := bindo h
  refine q_call (dst := some 7) rfl (.func _) (.cons (.tmp rfl) Evs.nil) (HInv.static slices_Reverse_int_int.at_ slices_Reverse_int_int.body (slices_Reverse_int_int.snd  hp2)) ?_
  rintro _ _ ⟨rfl, rfl⟩
  refine hr_region_end ?_
  try dsimp only [HAct.put, List.set_cons_zero, List.set_cons_succ]
  refine q_seq e2 ?_
  refine q_region e3 rfl ?_
  refine q_op (dst := some 8) rfl (fun _ ho => ok_move ho (.tmp rfl)) ?_
  refine q_op (dst := some 9) rfl (fun _ ho => ok_move ho (.tmp rfl)) ?_
  obtain ⟨p3, hp3, h⟩ := bindo h
  refine q_op (dst := some 10) rfl (fun _ ho => ok_slice (kl := .i64) (kh := .i64) (s := x0) (l := x1) (h := (Sl.len x0 : Int)) ho tu24 si3 (.tmp rfl) (.inr ⟨_, rfl, (.tmp rfl)⟩) (.inl ⟨rfl, rfl⟩) hp3) ?_
  obtain ⟨p4, hp4, h⟩ := bindo h
  refine q_call (dst := some 11) rfl (.func _) (.cons (.tmp rfl) Evs.nil) (HInv.static slices_Reverse_int_int.at_ slices_Reverse_int_int.body (slices_Reverse_int_int.snd  hp4)) ?_
  rintro _ _ ⟨rfl, rfl⟩
  refine hr_region_end ?_
  try dsimp only [HAct.put, List.set_cons_zero, List.set_cons_succ]
  refine q_region e4 rfl ?_
  refine q_op (dst := some 12) rfl (fun _ ho => ok_move ho (.tmp rfl)) ?_
  obtain ⟨p5, hp5, h⟩ := bindo h
  refine q_call (dst := some 13) rfl (.func _) (.cons (.tmp rfl) Evs.nil) (HInv.static slices_Reverse_int_int.at_ slices_Reverse_int_int.body (slices_Reverse_int_int.snd  hp5)) ?_
  rintro _ _ ⟨rfl, rfl⟩
  refine hr_region_end ?_
  try dsimp only [HAct.put, List.set_cons_zero, List.set_cons_succ]
  cases h
  exact q_end at_.at_ rfl (res0 rfl) ⟨rfl, rfl⟩
end
end slices_rotateLeft_int
namespace slices_rotateRight_int
abbrev id : Nat := 34
theorem at_ : FnAt Try.prog 34 Try.f34 := ⟨Try.func34, by kernel_rfl⟩
noncomputable def c0 : Code := (Try.f34.body).getD .skip
noncomputable def r0 : Array Oper := match c0 with | .region _ x _ => x | _ => #[]
theorem e0 : c0 = .region 0 r0 false := by kernel_rfl
theorem body : Try.f34.body = some c0 := by kernel_rfl
section
variable {base : Nat} {W0 : World} {β0 : Bt}
def f (k : Nat) (x0 : Sl) (x1 : Int) (S : HS) : Option ((Unit) × HS) :=
  (Option.bind (slices_rotateLeft_int.f k x0 (w64 ((Sl.len x0 : Int) - x1)) S) fun p1 =>
  some ((), p1.2))
theorem snd {k : Nat} {x0 : Sl} {x1 : Int} {S : HS}  {p : (Unit) × HS} (h : f k x0 x1 S = some p) : HCall Try.prog base W0 β0 34 [(Sl.hv x0), (.int .i64 x1)] S (fun v S1 => v = (.tup []) ∧ S1 = p.2) := by
  unfold f at h
  refine HCall.of_run at_.at_ body ?_
  show HRun Try.prog base W0 β0 34 none [.code c0] ⟨[(Sl.hv x0), (.int .i64 x1), .tup [], .tup [], .tup [], .tup [], .tup [], .tup [], .tup [], .tup []], []⟩ S _
  refine q_region e0 rfl ?_
  refine q_op (dst := some 4) rfl (fun _ ho => ok_move ho (.tmp rfl)) ?_
  refine q_op (dst := some 5) rfl (fun _ ho => ok_move ho (.tmp rfl)) ?_
  refine q_op (dst := some 6) rfl (fun _ ho => ok_len_sl (q := Sl.a x0) (n := Sl.len x0) (z := Sl.cap x0) ho rfl tu24 (.tmp rfl)) ?_
  refine q_op (dst := some 7) rfl (fun _ ho => ok_move ho (.tmp rfl)) ?_
  try dsimp only [HAct.put, List.set_cons_zero, List.set_cons_succ]
  refine q_op (dst := some 8) rfl (fun _ ho => ok_ibin ho (.tmp rfl) (.tmp rfl) rfl) ?_
  obtain ⟨p1, hp1, h⟩ := bindo h
  refine q_call (dst := some 9) rfl (.func _) (.cons (.tmp rfl) (.cons (.tmp rfl) Evs.nil)) (HInv.static slices_rotateLeft_int.at_ slices_rotateLeft_int.body (slices_rotateLeft_int.snd  hp1)) ?_
  rintro _ _ ⟨rfl, rfl⟩
  refine hr_region_end ?_
  try dsimp only [HAct.put, List.set_cons_zero, List.set_cons_succ]
  cases h
  exact q_end at_.at_ rfl (res0 rfl) ⟨rfl, rfl⟩
end
end slices_rotateRight_int
namespace slices_Insert_int_int
abbrev id : Nat := 28
theorem at_ : FnAt Try.prog 28 Try.f28 := ⟨Try.func28, by kernel_rfl⟩
noncomputable def c0 : Code := (Try.f28.body).getD .skip
noncomputable def c1 : Code := match c0 with | .seq x _ => x | _ => .skip
noncomputable def c2 : Code := match c0 with | .seq _ x => x | _ => .skip
noncomputable def c3 : Code := match c2 with | .seq x _ => x | _ => .skip
noncomputable def c4 : Code := match c2 with | .seq _ x => x | _ => .skip
noncomputable def c5 : Code := match c4 with | .seq x _ => x | _ => .skip
noncomputable def c6 : Code := match c4 with | .seq _ x => x | _ => .skip
noncomputable def c7 : Code := match c6 with | .seq x _ => x | _ => .skip
noncomputable def c8 : Code := match c7 with | .seq x _ => x | _ => .skip
noncomputable def c9 : Code := match c7 with | .seq _ x => x | _ => .skip
noncomputable def c10 : Code := match c9 with | .cond _ x _ => x | _ => .skip
noncomputable def c11 : Code := match c10 with | .seq x _ => x | _ => .skip
noncomputable def c12 : Code := match c10 with | .seq _ x => x | _ => .skip
noncomputable def c13 : Code := match c9 with | .cond _ _ x => x | _ => .skip
noncomputable def c14 : Code := match c6 with | .seq _ x => x | _ => .skip
noncomputable def c15 : Code := match c14 with | .seq x _ => x | _ => .skip
noncomputable def c16 : Code := match c14 with | .seq _ x => x | _ => .skip
noncomputable def c17 : Code := match c16 with | .seq x _ => x | _ => .skip
noncomputable def c18 : Code := match c17 with | .seq x _ => x | _ => .skip
noncomputable def c19 : Code := match c17 with | .seq _ x => x | _ => .skip
noncomputable def c20 : Code := match c19 with | .cond _ x _ => x | _ => .skip
noncomputable def c21 : Code := match c20 with | .seq x _ => x | _ => .skip
noncomputable def c22 : Code := match c20 with | .seq _ x => x | _ => .skip
noncomputable def c23 : Code := match c19 with | .cond _ _ x => x | _ => .skip
noncomputable def c24 : Code := match c16 with | .seq _ x => x | _ => .skip
noncomputable def c25 : Code := match c24 with | .seq x _ => x | _ => .skip
noncomputable def c26 : Code := match c25 with | .seq x _ => x | _ => .skip
noncomputable def c27 : Code := match c25 with | .seq _ x => x | _ => .skip
noncomputable def c28 : Code := match c27 with | .cond _ x _ => x | _ => .skip
noncomputable def c29 : Code := match c28 with | .seq x _ => x | _ => .skip
noncomputable def c30 : Code := match c28 with | .seq _ x => x | _ => .skip
noncomputable def c31 : Code := match c30 with | .seq x _ => x | _ => .skip
noncomputable def c32 : Code := match c30 with | .seq _ x => x | _ => .skip
noncomputable def c33 : Code := match c32 with | .seq x _ => x | _ => .skip
noncomputable def c34 : Code := match c32 with | .seq _ x => x | _ => .skip
noncomputable def c35 : Code := match c34 with | .seq x _ => x | _ => .skip
noncomputable def c36 : Code := match c34 with | .seq _ x => x | _ => .skip
noncomputable def c37 : Code := match c27 with | .cond _ _ x => x | _ => .skip
noncomputable def c38 : Code := match c24 with | .seq _ x => x | _ => .skip
noncomputable def c39 : Code := match c38 with | .seq x _ => x | _ => .skip
noncomputable def c40 : Code := match c38 with | .seq _ x => x | _ => .skip
noncomputable def c41 : Code := match c40 with | .seq x _ => x | _ => .skip
noncomputable def c42 : Code := match c41 with | .seq x _ => x | _ => .skip
noncomputable def c43 : Code := match c41 with | .seq _ x => x | _ => .skip
noncomputable def c44 : Code := match c43 with | .cond _ x _ => x | _ => .skip
noncomputable def c45 : Code := match c44 with | .seq x _ => x | _ => .skip
noncomputable def c46 : Code := match c44 with | .seq _ x => x | _ => .skip
noncomputable def c47 : Code := match c46 with | .seq x _ => x | _ => .skip
noncomputable def c48 : Code := match c46 with | .seq _ x => x | _ => .skip
noncomputable def c49 : Code := match c48 with | .seq x _ => x | _ => .skip
noncomputable def c50 : Code := match c48 with | .seq _ x => x | _ => .skip
noncomputable def c51 : Code := match c43 with | .cond _ _ x => x | _ => .skip
noncomputable def c52 : Code := match c40 with | .seq _ x => x | _ => .skip
noncomputable def c53 : Code := match c52 with | .seq x _ => x | _ => .skip
noncomputable def c54 : Code := match c52 with | .seq _ x => x | _ => .skip
noncomputable def c55 : Code := match c54 with | .seq x _ => x | _ => .skip
noncomputable def c56 : Code := match c54 with | .seq _ x => x | _ => .skip
noncomputable def c57 : Code := match c56 with | .seq x _ => x | _ => .skip
noncomputable def c58 : Code := match c56 with | .seq _ x => x | _ => .skip
theorem e0 : c0 = .seq c1 c2 := by kernel_rfl
noncomputable def r1 : Array Oper := match c1 with | .region _ x _ => x | _ => #[]
theorem e1 : c1 = .region 0 r1 false := by kernel_rfl
theorem e2 : c2 = .seq c3 c4 := by kernel_rfl
noncomputable def r3 : Array Oper := match c3 with | .region _ x _ => x | _ => #[]
theorem e3 : c3 = .region 1 r3 false := by kernel_rfl
theorem e4 : c4 = .seq c5 c6 := by kernel_rfl
noncomputable def r5 : Array Oper := match c5 with | .region _ x _ => x | _ => #[]
theorem e5 : c5 = .region 2 r5 false := by kernel_rfl
theorem e6 : c6 = .seq c7 c14 := by kernel_rfl
theorem e7 : c7 = .seq c8 c9 := by kernel_rfl
noncomputable def r8 : Array Oper := match c8 with | .region _ x _ => x | _ => #[]
theorem e8 : c8 = .region 3 r8 false := by kernel_rfl
theorem e9 : c9 = .cond (.tmp 16) c10 c13 := by kernel_rfl
theorem e10 : c10 = .seq c11 c12 := by kernel_rfl
noncomputable def r11 : Array Oper := match c11 with | .region _ x _ => x | _ => #[]
theorem e11 : c11 = .region 4 r11 false := by kernel_rfl
theorem e12 : c12 = .ret := by kernel_rfl
theorem e13 : c13 = .skip := by kernel_rfl
theorem e14 : c14 = .seq c15 c16 := by kernel_rfl
noncomputable def r15 : Array Oper := match c15 with | .region _ x _ => x | _ => #[]
theorem e15 : c15 = .region 5 r15 false := by kernel_rfl
theorem e16 : c16 = .seq c17 c24 := by kernel_rfl
theorem e17 : c17 = .seq c18 c19 := by kernel_rfl
noncomputable def r18 : Array Oper := match c18 with | .region _ x _ => x | _ => #[]
theorem e18 : c18 = .region 6 r18 false := by kernel_rfl
theorem e19 : c19 = .cond (.tmp 22) c20 c23 := by kernel_rfl
theorem e20 : c20 = .seq c21 c22 := by kernel_rfl
noncomputable def r21 : Array Oper := match c21 with | .region _ x _ => x | _ => #[]
theorem e21 : c21 = .region 7 r21 false := by kernel_rfl
theorem e22 : c22 = .ret := by kernel_rfl
theorem e23 : c23 = .skip := by kernel_rfl
theorem e24 : c24 = .seq c25 c38 := by kernel_rfl
theorem e25 : c25 = .seq c26 c27 := by kernel_rfl
noncomputable def r26 : Array Oper := match c26 with | .region _ x _ => x | _ => #[]
theorem e26 : c26 = .region 8 r26 false := by kernel_rfl
theorem e27 : c27 = .cond (.tmp 31) c28 c37 := by kernel_rfl
theorem e28 : c28 = .seq c29 c30 := by kernel_rfl
noncomputable def r29 : Array Oper := match c29 with | .region _ x _ => x | _ => #[]
theorem e29 : c29 = .region 9 r29 false := by kernel_rfl
theorem e30 : c30 = .seq c31 c32 := by kernel_rfl
noncomputable def r31 : Array Oper := match c31 with | .region _ x _ => x | _ => #[]
theorem e31 : c31 = .region 10 r31 false := by kernel_rfl
theorem e32 : c32 = .seq c33 c34 := by kernel_rfl
noncomputable def r33 : Array Oper := match c33 with | .region _ x _ => x | _ => #[]
theorem e33 : c33 = .region 11 r33 true := by kernel_rfl
theorem e34 : c34 = .seq c35 c36 := by kernel_rfl
noncomputable def r35 : Array Oper := match c35 with | .region _ x _ => x | _ => #[]
theorem e35 : c35 = .region 12 r35 false := by kernel_rfl
theorem e36 : c36 = .ret := by kernel_rfl
theorem e37 : c37 = .skip := by kernel_rfl
theorem e38 : c38 = .seq c39 c40 := by kernel_rfl
noncomputable def r39 : Array Oper := match c39 with | .region _ x _ => x | _ => #[]
theorem e39 : c39 = .region 13 r39 false := by kernel_rfl
theorem e40 : c40 = .seq c41 c52 := by kernel_rfl
theorem e41 : c41 = .seq c42 c43 := by kernel_rfl
noncomputable def r42 : Array Oper := match c42 with | .region _ x _ => x | _ => #[]
theorem e42 : c42 = .region 14 r42 false := by kernel_rfl
theorem e43 : c43 = .cond (.tmp 68) c44 c51 := by kernel_rfl
theorem e44 : c44 = .seq c45 c46 := by kernel_rfl
noncomputable def r45 : Array Oper := match c45 with | .region _ x _ => x | _ => #[]
theorem e45 : c45 = .region 15 r45 true := by kernel_rfl
theorem e46 : c46 = .seq c47 c48 := by kernel_rfl
noncomputable def r47 : Array Oper := match c47 with | .region _ x _ => x | _ => #[]
theorem e47 : c47 = .region 16 r47 false := by kernel_rfl
theorem e48 : c48 = .seq c49 c50 := by kernel_rfl
noncomputable def r49 : Array Oper := match c49 with | .region _ x _ => x | _ => #[]
theorem e49 : c49 = .region 17 r49 false := by kernel_rfl
theorem e50 : c50 = .ret := by kernel_rfl
theorem e51 : c51 = .skip := by kernel_rfl
theorem e52 : c52 = .seq c53 c54 := by kernel_rfl
noncomputable def r53 : Array Oper := match c53 with | .region _ x _ => x | _ => #[]
theorem e53 : c53 = .region 18 r53 false := by kernel_rfl
theorem e54 : c54 = .seq c55 c56 := by kernel_rfl
noncomputable def r55 : Array Oper := match c55 with | .region _ x _ => x | _ => #[]
theorem e55 : c55 = .region 19 r55 false := by kernel_rfl
theorem e56 : c56 = .seq c57 c58 := by kernel_rfl
noncomputable def r57 : Array Oper := match c57 with | .region _ x _ => x | _ => #[]
theorem e57 : c57 = .region 20 r57 false := by kernel_rfl
theorem e58 : c58 = .ret := by kernel_rfl
theorem body : Try.f28.body = some c0 := by kernel_rfl
section
variable {base : Nat} {W0 : World} {β0 : Bt}
def f (k : Nat) (x0 : Sl) (x1 : Int) (x2 : Sl) (S : HS) : Option ((Sl) × HS) :=
  (Option.bind (HS.cut S x0 x1 (Sl.len x0 : Int) 1) fun p1 =>
  (if (Sl.len x2 : Int) = 0 then
  some (x0, S) else
  (if x1 = (Sl.len x0 : Int) then
  (Option.bind (HS.rows S x2 1) fun p4 =>
  (Option.bind (HS.app S x0 p4 1) fun p5 =>
  some ((p5.1), (p5.2)))) else
  (Option.bind (Sl.capOf x0) fun p6 =>
  (if (w64 ((Sl.len x0 : Int) + (Sl.len x2 : Int))) > p6 then
  (Option.bind (HS.cut S x0 0 x1 1) fun p8 =>
  (Option.bind (HS.appZ S p8 (w64 ((w64 ((Sl.len x0 : Int) + (Sl.len x2 : Int))) - x1)) [(.int .i64 0)] 1) fun p9 =>
  (Option.bind (HS.cut (p9.2) (p9.1) x1 (Sl.len (p9.1) : Int) 1) fun p10 =>
  (Option.bind (HS.rows (p9.2) x2 1) fun p11 =>
  (Option.bind (HS.over (p9.2) p10 (List.take (Sl.len p10) p11) 1) fun p12 =>
  (Option.bind (HS.cut p12 (p9.1) (w64 (x1 + (Sl.len x2 : Int))) (Sl.len (p9.1) : Int) 1) fun p13 =>
  (Option.bind (HS.cut p12 x0 x1 (Sl.len x0 : Int) 1) fun p14 =>
  (Option.bind (HS.rows p12 p14 1) fun p15 =>
  (Option.bind (HS.over p12 p13 (List.take (Sl.len p13) p15) 1) fun p16 =>
  some ((p9.1), p16)))))))))) else
  (Option.bind (HS.cut S x0 0 (w64 ((Sl.len x0 : Int) + (Sl.len x2 : Int))) 1) fun p17 =>
  (Option.bind (HS.cut S p17 (w64 (x1 + (Sl.len x2 : Int))) (Sl.len p17 : Int) 1) fun p18 =>
  (Option.bind (HS.ovl S x2 p18) fun p19 =>
  (if (!p19) = true then
  (Option.bind (HS.cut S p17 (w64 (x1 + (Sl.len x2 : Int))) (Sl.len p17 : Int) 1) fun p21 =>
  (Option.bind (HS.cut S p17 x1 (Sl.len p17 : Int) 1) fun p22 =>
  (Option.bind (HS.rows S p22 1) fun p23 =>
  (Option.bind (HS.over S p21 (List.take (Sl.len p21) p23) 1) fun p24 =>
  (Option.bind (HS.cut p24 p17 x1 (Sl.len p17 : Int) 1) fun p25 =>
  (Option.bind (HS.rows p24 x2 1) fun p26 =>
  (Option.bind (HS.over p24 p25 (List.take (Sl.len p25) p26) 1) fun p27 =>
  some (p17, p27)))))))) else
  (Option.bind (HS.cut S p17 (Sl.len x0 : Int) (Sl.len p17 : Int) 1) fun p28 =>
  (Option.bind (HS.rows S x2 1) fun p29 =>
  (Option.bind (HS.over S p28 (List.take (Sl.len p28) p29) 1) fun p30 =>
  (Option.bind (HS.cut p30 p17 x1 (Sl.len p17 : Int) 1) fun p31 =>
  (Option.bind (slices_rotateRight_int.f k p31 (Sl.len x2 : Int) p30) fun p32 =>
  some (p17, p32.2)))))))))))))))
theorem snd {k : Nat} {x0 : Sl} {x1 : Int} {x2 : Sl} {S : HS}  {p : (Sl) × HS} (h : f k x0 x1 x2 S = some p) : HCall Try.prog base W0 β0 28 [(Sl.hv x0), (.int .i64 x1), (Sl.hv x2)] S (fun v S1 => v = (Sl.hv p.1) ∧ S1 = p.2) := by
  unfold f at h
  refine HCall.of_run at_.at_ body ?_
  show HRun Try.prog base W0 β0 28 none [.code c0] ⟨[(Sl.hv x0), (.int .i64 x1), (Sl.hv x2), .tup [], .tup [], .tup [], .tup [], .tup [], .tup [], .tup [], .tup [], .tup [], .tup [], .tup [], .tup [], .tup [], .tup [], .tup [], .tup [], .tup [], .tup [], .tup [], .tup [], .tup [], .tup [], .tup [], .tup [], .tup [], .tup [], .tup [], .tup [], .tup [], .tup [], .tup [], .tup [], .tup [], .tup [], .tup [], .tup [], .tup [], .tup [], .tup [], .tup [], .tup [], .tup [], .tup [], .tup [], .tup [], .tup [], .tup [], .tup [], .tup [], .tup [], .tup [], .tup [], .tup [], .tup [], .tup [], .tup [], .tup [], .tup [], .tup [], .tup [], .tup [], .tup [], .tup [], .tup [], .tup [], .tup [], .tup [], .tup [], .tup [], .tup [], .tup [], .tup [], .tup [], .tup [], .tup [], .tup [], .tup [], .tup [], .tup [], .tup [], .tup [], .tup [], .tup [], .tup [], .tup [], .tup [], .tup [], .tup [], .tup [], .tup [], .tup [], .tup []], []⟩ S _
  refine q_seq e0 ?_
  refine q_region e1 rfl ?_
  refine q_op (dst := some 6) rfl (fun _ ho => ok_assign ho (.const fun _ => .slNil none)) ?_
  refine hr_region_end ?_
  try dsimp only [HAct.put, List.set_cons_zero, List.set_cons_succ]
  refine q_seq e2 ?_
  refine q_region e3 rfl ?_
  refine q_op (dst := some 10) rfl (fun _ ho => ok_move ho (.tmp rfl)) ?_
  refine q_op (dst := some 11) rfl (fun _ ho => ok_move ho (.tmp rfl)) ?_
  obtain ⟨p1, hp1, h⟩ := bindo h
  refine q_op (dst := some 12) rfl (fun _ ho => ok_slice (kl := .i64) (kh := .i64) (s := x0) (l := x1) (h := (Sl.len x0 : Int)) ho tu24 si3 (.tmp rfl) (.inr ⟨_, rfl, (.tmp rfl)⟩) (.inl ⟨rfl, rfl⟩) hp1) ?_
  refine hr_region_end ?_
  try dsimp only [HAct.put, List.set_cons_zero, List.set_cons_succ]
  refine q_seq e4 ?_
  refine q_region e5 rfl ?_
  refine q_op (dst := some 13) rfl (fun _ ho => ok_move ho (.tmp rfl)) ?_
  refine q_op (dst := some 14) rfl (fun _ ho => ok_len_sl (q := Sl.a x2) (n := Sl.len x2) (z := Sl.cap x2) ho rfl tu24 (.tmp rfl)) ?_
  refine q_op (dst := some 7) rfl (fun _ ho => ok_assign ho (.tmp rfl)) ?_
  refine hr_region_end ?_
  try dsimp only [HAct.put, List.set_cons_zero, List.set_cons_succ]
  refine q_seq e6 ?_
  refine q_seq e7 ?_
  refine q_region e8 rfl ?_
  refine q_op (dst := some 15) rfl (fun _ ho => ok_move ho (.tmp rfl)) ?_
  refine q_op (dst := some 16) rfl (fun _ ho => ok_ibin ho (.tmp rfl) (.int _ _) rfl) ?_
  refine hr_region_end ?_
  try dsimp only [HAct.put, List.set_cons_zero, List.set_cons_succ]
  rcases ifc h with ⟨hc2, h⟩ | ⟨hc2, h⟩
  · refine q_cond_t e9 (.tmp rfl) (decide_eq_true hc2) ?_
    refine q_seq e10 ?_
    refine q_region e11 rfl ?_
    refine q_op (dst := some 17) rfl (fun _ ho => ok_move ho (.tmp rfl)) ?_
    refine q_op (dst := some 6) rfl (fun _ ho => ok_assign ho (.tmp rfl)) ?_
    refine hr_region_end ?_
    try dsimp only [HAct.put, List.set_cons_zero, List.set_cons_succ]
    cases h
    exact q_ret e12 at_.at_ rfl (res1 rfl rfl) ⟨rfl, rfl⟩
  · refine q_cond_f e9 (.tmp rfl) (decide_eq_false hc2) ?_
    refine q_skipc e13 ?_
    refine q_seq e14 ?_
    refine q_region e15 rfl ?_
    refine q_op (dst := some 18) rfl (fun _ ho => ok_move ho (.tmp rfl)) ?_
    refine q_op (dst := some 19) rfl (fun _ ho => ok_len_sl (q := Sl.a x0) (n := Sl.len x0) (z := Sl.cap x0) ho rfl tu24 (.tmp rfl)) ?_
    refine q_op (dst := some 8) rfl (fun _ ho => ok_assign ho (.tmp rfl)) ?_
    refine hr_region_end ?_
    try dsimp only [HAct.put, List.set_cons_zero, List.set_cons_succ]
    refine q_seq e16 ?_
    refine q_seq e17 ?_
    refine q_region e18 rfl ?_
    refine q_op (dst := some 20) rfl (fun _ ho => ok_move ho (.tmp rfl)) ?_
    refine q_op (dst := some 21) rfl (fun _ ho => ok_move ho (.tmp rfl)) ?_
    refine q_op (dst := some 22) rfl (fun _ ho => ok_ibin ho (.tmp rfl) (.tmp rfl) rfl) ?_
    refine hr_region_end ?_
    try dsimp only [HAct.put, List.set_cons_zero, List.set_cons_succ]
    rcases ifc h with ⟨hc3, h⟩ | ⟨hc3, h⟩
    · refine q_cond_t e19 (.tmp rfl) (decide_eq_true hc3) ?_
      refine q_seq e20 ?_
      refine q_region e21 rfl ?_
      refine q_op (dst := some 23) rfl (fun _ ho => ok_move ho (.tmp rfl)) ?_
      refine q_op (dst := some 24) rfl (fun _ ho => ok_move ho (.tmp rfl)) ?_
      obtain ⟨p4, hp4, h⟩ := bindo h
      obtain ⟨p5, hp5, h⟩ := bindo h
      refine q_op (dst := some 25) rfl (fun _ ho => ok_append (s := x0) (s1 := x2) el24 ho rfl rfl ⟨_, tu24⟩ (.tmp rfl) (.tmp rfl) hp4 hp5) ?_
      refine q_op (dst := some 6) rfl (fun _ ho => ok_assign ho (.tmp rfl)) ?_
      refine hr_region_end ?_
      try dsimp only [HAct.put, List.set_cons_zero, List.set_cons_succ]
      cases h
      exact q_ret e22 at_.at_ rfl (res1 rfl rfl) ⟨rfl, rfl⟩
    · refine q_cond_f e19 (.tmp rfl) (decide_eq_false hc3) ?_
      refine q_skipc e23 ?_
      refine q_seq e24 ?_
      refine q_seq e25 ?_
      refine q_region e26 rfl ?_
      refine q_op (dst := some 26) rfl (fun _ ho => ok_move ho (.tmp rfl)) ?_
      refine q_op (dst := some 27) rfl (fun _ ho => ok_move ho (.tmp rfl)) ?_
      refine q_op (dst := some 28) rfl (fun _ ho => ok_ibin ho (.tmp rfl) (.tmp rfl) rfl) ?_
      refine q_op (dst := some 29) rfl (fun _ ho => ok_move ho (.tmp rfl)) ?_
      try dsimp only [HAct.put, List.set_cons_zero, List.set_cons_succ]
      obtain ⟨p6, hp6, h⟩ := bindo h
      refine q_op (dst := some 30) rfl (fun _ ho => ok_cap (s := x0) ho rfl tu24 (.tmp rfl) hp6) ?_
      refine q_op (dst := some 31) rfl (fun _ ho => ok_ibin ho (.tmp rfl) (.tmp rfl) rfl) ?_
      refine hr_region_end ?_
      try dsimp only [HAct.put, List.set_cons_zero, List.set_cons_succ]
      rcases ifc h with ⟨hc7, h⟩ | ⟨hc7, h⟩
      · refine q_cond_t e27 (.tmp rfl) (decide_eq_true hc7) ?_
        refine q_seq e28 ?_
        refine q_region e29 rfl ?_
        refine q_op (dst := some 32) rfl (fun _ ho => ok_move ho (.tmp rfl)) ?_
        refine q_op (dst := some 33) rfl (fun _ ho => ok_move ho (.tmp rfl)) ?_
        obtain ⟨p8, hp8, h⟩ := bindo h
        refine q_op (dst := some 34) rfl (fun _ ho => ok_slice (kl := .i64) (kh := .i64) (s := x0) (l := 0) (h := x1) ho tu24 si3 (.tmp rfl) (.inl ⟨rfl, rfl⟩) (.inr ⟨_, rfl, (.tmp rfl)⟩) hp8) ?_
        refine q_op (dst := some 35) rfl (fun _ ho => ok_move ho (.tmp rfl)) ?_
        try dsimp only [HAct.put, List.set_cons_zero, List.set_cons_succ]
        refine q_op (dst := some 36) rfl (fun _ ho => ok_move ho (.tmp rfl)) ?_
        refine q_op (dst := some 37) rfl (fun _ ho => ok_ibin ho (.tmp rfl) (.tmp rfl) rfl) ?_
        refine q_op (dst := some 38) rfl (fun _ ho => ok_move ho (.tmp rfl)) ?_
        refine q_op (dst := some 39) rfl (fun _ ho => ok_ibin ho (.tmp rfl) (.tmp rfl) rfl) ?_
        try dsimp only [HAct.put, List.set_cons_zero, List.set_cons_succ]
        obtain ⟨p9, hp9, h⟩ := bindo h
        refine q_op (dst := some 40) rfl (fun _ ho => ok_append_zeros (s := p8) el24 ho rfl rfl tu3 (.tmp rfl) (.tmp rfl) hp9) ?_
        refine q_op (dst := some 9) rfl (fun _ ho => ok_assign ho (.tmp rfl)) ?_
        refine hr_region_end ?_
        try dsimp only [HAct.put, List.set_cons_zero, List.set_cons_succ]
        refine q_seq e30 ?_
        refine q_region e31 rfl ?_
        refine q_op (dst := some 41) rfl (fun _ ho => ok_move ho (.tmp rfl)) ?_
        refine q_op (dst := some 42) rfl (fun _ ho => ok_move ho (.tmp rfl)) ?_
        obtain ⟨p10, hp10, h⟩ := bindo h
        refine q_op (dst := some 43) rfl (fun _ ho => ok_slice (kl := .i64) (kh := .i64) (s := (p9.1)) (l := x1) (h := (Sl.len (p9.1) : Int)) ho tu24 si3 (.tmp rfl) (.inr ⟨_, rfl, (.tmp rfl)⟩) (.inl ⟨rfl, rfl⟩) hp10) ?_
        refine q_op (dst := some 44) rfl (fun _ ho => ok_move ho (.tmp rfl)) ?_
        try dsimp only [HAct.put, List.set_cons_zero, List.set_cons_succ]
        obtain ⟨p11, hp11, h⟩ := bindo h
        obtain ⟨p12, hp12, h⟩ := bindo h
        refine q_op (dst := some 45) rfl (fun _ ho => ok_copy (s := p10) (s1 := x2) el24 ho rfl (.tmp rfl) (.tmp rfl) hp11 hp12) ?_
        refine hr_region_end ?_
        try dsimp only [HAct.put, List.set_cons_zero, List.set_cons_succ]
        refine q_seq e32 ?_
        refine x_start (cls := [0, 0, 0, 0, 1, 0, 0, 1, 2]) (rk := [0, 1, 2, 3, 4, 5, 6, 7, 8]) e33 (by kernel_rfl) ?_
        refine x_go (f_op (dst := some 46) (ts := [9]) rfl (by intro _ _ h; cases h) (by kernel_rfl) (fun _ _ ho => ok_move ho (.tmp rfl))) rfl ?_
        refine x_go (f_op (dst := some 47) (ts := [1]) rfl (by intro _ _ h; cases h) (by kernel_rfl) (fun _ _ ho => ok_move ho (.tmp rfl))) rfl ?_
        refine x_go (f_op (dst := some 48) (ts := [7]) rfl (by intro _ _ h; cases h) (by kernel_rfl) (fun _ _ ho => ok_move ho (.tmp rfl))) rfl ?_
        refine x_go (f_op (dst := some 49) (ts := [47, 48]) rfl (by intro _ _ h; cases h) (by kernel_rfl) (fun _ _ ho => ok_ibin ho (.tmp rfl) (.tmp rfl) rfl)) rfl ?_
        try dsimp only [HAct.put, List.set_cons_zero, List.set_cons_succ]
        obtain ⟨p13, hp13, h⟩ := bindo h
        refine x_go (r_op (dst := some 50) (ts := [46, 49]) rfl (by intro _ _ h; cases h) (by kernel_rfl) (fun _ ho => ok_slice (kl := .i64) (kh := .i64) (s := (p9.1)) (l := (w64 (x1 + (Sl.len x2 : Int)))) (h := (Sl.len (p9.1) : Int)) ho tu24 si3 (.tmp rfl) (.inr ⟨_, rfl, (.tmp rfl)⟩) (.inl ⟨rfl, rfl⟩) hp13)) rfl ?_
        refine x_go (f_op (dst := some 51) (ts := [0]) rfl (by intro _ _ h; cases h) (by kernel_rfl) (fun _ _ ho => ok_move ho (.tmp rfl))) rfl ?_
        refine x_go (f_op (dst := some 52) (ts := [1]) rfl (by intro _ _ h; cases h) (by kernel_rfl) (fun _ _ ho => ok_move ho (.tmp rfl))) rfl ?_
        obtain ⟨p14, hp14, h⟩ := bindo h
        refine x_go (r_op (dst := some 53) (ts := [51, 52]) rfl (by intro _ _ h; cases h) (by kernel_rfl) (fun _ ho => ok_slice (kl := .i64) (kh := .i64) (s := x0) (l := x1) (h := (Sl.len x0 : Int)) ho tu24 si3 (.tmp rfl) (.inr ⟨_, rfl, (.tmp rfl)⟩) (.inl ⟨rfl, rfl⟩) hp14)) rfl ?_
        try dsimp only [HAct.put, List.set_cons_zero, List.set_cons_succ]
        obtain ⟨p15, hp15, h⟩ := bindo h
        obtain ⟨p16, hp16, h⟩ := bindo h
        refine x_go (e_op (dst := some 54) (ts := [50, 53]) rfl (by intro _ _ h; cases h) (by kernel_rfl) (fun _ ho => ok_copy (s := p13) (s1 := p14) el24 ho rfl (.tmp rfl) (.tmp rfl) hp15 hp16)) rfl ?_
        refine x_rest rfl ?_
        refine hr_region_end ?_
        try dsimp only [HAct.put, List.set_cons_zero, List.set_cons_succ]
        refine q_seq e34 ?_
        refine q_region e35 rfl ?_
        refine q_op (dst := some 55) rfl (fun _ ho => ok_move ho (.tmp rfl)) ?_
        refine q_op (dst := some 6) rfl (fun _ ho => ok_assign ho (.tmp rfl)) ?_
        refine hr_region_end ?_
        try dsimp only [HAct.put, List.set_cons_zero, List.set_cons_succ]
        cases h
        exact q_ret e36 at_.at_ rfl (res1 rfl rfl) ⟨rfl, rfl⟩
      · refine q_cond_f e27 (.tmp rfl) (decide_eq_false hc7) ?_
        refine q_skipc e37 ?_
        refine q_seq e38 ?_
        refine q_region e39 rfl ?_
        refine q_op (dst := some 56) rfl (fun _ ho => ok_move ho (.tmp rfl)) ?_
        refine q_op (dst := some 57) rfl (fun _ ho => ok_move ho (.tmp rfl)) ?_
        refine q_op (dst := some 58) rfl (fun _ ho => ok_move ho (.tmp rfl)) ?_
        refine q_op (dst := some 59) rfl (fun _ ho => ok_ibin ho (.tmp rfl) (.tmp rfl) rfl) ?_
        try dsimp only [HAct.put, List.set_cons_zero, List.set_cons_succ]
        obtain ⟨p17, hp17, h⟩ := bindo h
        refine q_op (dst := some 60) rfl (fun _ ho => ok_slice (kl := .i64) (kh := .i64) (s := x0) (l := 0) (h := (w64 ((Sl.len x0 : Int) + (Sl.len x2 : Int)))) ho tu24 si3 (.tmp rfl) (.inl ⟨rfl, rfl⟩) (.inr ⟨_, rfl, (.tmp rfl)⟩) hp17) ?_
        refine q_op (dst := some 0) rfl (fun _ ho => ok_assign ho (.tmp rfl)) ?_
        refine hr_region_end ?_
        try dsimp only [HAct.put, List.set_cons_zero, List.set_cons_succ]
        refine q_seq e40 ?_
        refine q_seq e41 ?_
        refine q_region e42 rfl ?_
        refine q_op (dst := some 61) rfl (fun _ ho => ok_move ho (.tmp rfl)) ?_
        refine q_op (dst := some 62) rfl (fun _ ho => ok_move ho (.tmp rfl)) ?_
        refine q_op (dst := some 63) rfl (fun _ ho => ok_move ho (.tmp rfl)) ?_
        refine q_op (dst := some 64) rfl (fun _ ho => ok_move ho (.tmp rfl)) ?_
        try dsimp only [HAct.put, List.set_cons_zero, List.set_cons_succ]
        refine q_op (dst := some 65) rfl (fun _ ho => ok_ibin ho (.tmp rfl) (.tmp rfl) rfl) ?_
        obtain ⟨p18, hp18, h⟩ := bindo h
        refine q_op (dst := some 66) rfl (fun _ ho => ok_slice (kl := .i64) (kh := .i64) (s := p17) (l := (w64 (x1 + (Sl.len x2 : Int)))) (h := (Sl.len p17 : Int)) ho tu24 si3 (.tmp rfl) (.inr ⟨_, rfl, (.tmp rfl)⟩) (.inl ⟨rfl, rfl⟩) hp18) ?_
        obtain ⟨p19, hp19, h⟩ := bindo h
        refine q_op (dst := some 67) rfl (fun _ ho => ok_overlaps (s1 := x2) (s2 := p18) ho ext33 tu24 si3 (.tmp rfl) (.tmp rfl) hp19) ?_
        refine q_op (dst := some 68) rfl (fun _ ho => ok_not ho (.tmp rfl)) ?_
        refine hr_region_end ?_
        try dsimp only [HAct.put, List.set_cons_zero, List.set_cons_succ]
        rcases ifc h with ⟨hc20, h⟩ | ⟨hc20, h⟩
        · refine q_cond_t e43 (.tmp rfl) hc20 ?_
          refine q_seq e44 ?_
          refine x_start (cls := [0, 0, 0, 0, 1, 0, 0, 1, 2]) (rk := [0, 1, 2, 3, 4, 5, 6, 7, 8]) e45 (by kernel_rfl) ?_
          refine x_go (f_op (dst := some 69) (ts := [0]) rfl (by intro _ _ h; cases h) (by kernel_rfl) (fun _ _ ho => ok_move ho (.tmp rfl))) rfl ?_
          refine x_go (f_op (dst := some 70) (ts := [1]) rfl (by intro _ _ h; cases h) (by kernel_rfl) (fun _ _ ho => ok_move ho (.tmp rfl))) rfl ?_
          refine x_go (f_op (dst := some 71) (ts := [7]) rfl (by intro _ _ h; cases h) (by kernel_rfl) (fun _ _ ho => ok_move ho (.tmp rfl))) rfl ?_
          refine x_go (f_op (dst := some 72) (ts := [70, 71]) rfl (by intro _ _ h; cases h) (by kernel_rfl) (fun _ _ ho => ok_ibin ho (.tmp rfl) (.tmp rfl) rfl)) rfl ?_
          try dsimp only [HAct.put, List.set_cons_zero, List.set_cons_succ]
          obtain ⟨p21, hp21, h⟩ := bindo h
          refine x_go (r_op (dst := some 73) (ts := [69, 72]) rfl (by intro _ _ h; cases h) (by kernel_rfl) (fun _ ho => ok_slice (kl := .i64) (kh := .i64) (s := p17) (l := (w64 (x1 + (Sl.len x2 : Int)))) (h := (Sl.len p17 : Int)) ho tu24 si3 (.tmp rfl) (.inr ⟨_, rfl, (.tmp rfl)⟩) (.inl ⟨rfl, rfl⟩) hp21)) rfl ?_
          refine x_go (f_op (dst := some 74) (ts := [0]) rfl (by intro _ _ h; cases h) (by kernel_rfl) (fun _ _ ho => ok_move ho (.tmp rfl))) rfl ?_
          refine x_go (f_op (dst := some 75) (ts := [1]) rfl (by intro _ _ h; cases h) (by kernel_rfl) (fun _ _ ho => ok_move ho (.tmp rfl))) rfl ?_
          obtain ⟨p22, hp22, h⟩ := bindo h
          refine x_go (r_op (dst := some 76) (ts := [74, 75]) rfl (by intro _ _ h; cases h) (by kernel_rfl) (fun _ ho => ok_slice (kl := .i64) (kh := .i64) (s := p17) (l := x1) (h := (Sl.len p17 : Int)) ho tu24 si3 (.tmp rfl) (.inr ⟨_, rfl, (.tmp rfl)⟩) (.inl ⟨rfl, rfl⟩) hp22)) rfl ?_
          try dsimp only [HAct.put, List.set_cons_zero, List.set_cons_succ]
          obtain ⟨p23, hp23, h⟩ := bindo h
          obtain ⟨p24, hp24, h⟩ := bindo h
          refine x_go (e_op (dst := some 77) (ts := [73, 76]) rfl (by intro _ _ h; cases h) (by kernel_rfl) (fun _ ho => ok_copy (s := p21) (s1 := p22) el24 ho rfl (.tmp rfl) (.tmp rfl) hp23 hp24)) rfl ?_
          refine x_rest rfl ?_
          refine hr_region_end ?_
          try dsimp only [HAct.put, List.set_cons_zero, List.set_cons_succ]
          refine q_seq e46 ?_
          refine q_region e47 rfl ?_
          refine q_op (dst := some 78) rfl (fun _ ho => ok_move ho (.tmp rfl)) ?_
          refine q_op (dst := some 79) rfl (fun _ ho => ok_move ho (.tmp rfl)) ?_
          obtain ⟨p25, hp25, h⟩ := bindo h
          refine q_op (dst := some 80) rfl (fun _ ho => ok_slice (kl := .i64) (kh := .i64) (s := p17) (l := x1) (h := (Sl.len p17 : Int)) ho tu24 si3 (.tmp rfl) (.inr ⟨_, rfl, (.tmp rfl)⟩) (.inl ⟨rfl, rfl⟩) hp25) ?_
          refine q_op (dst := some 81) rfl (fun _ ho => ok_move ho (.tmp rfl)) ?_
          try dsimp only [HAct.put, List.set_cons_zero, List.set_cons_succ]
          obtain ⟨p26, hp26, h⟩ := bindo h
          obtain ⟨p27, hp27, h⟩ := bindo h
          refine q_op (dst := some 82) rfl (fun _ ho => ok_copy (s := p25) (s1 := x2) el24 ho rfl (.tmp rfl) (.tmp rfl) hp26 hp27) ?_
          refine hr_region_end ?_
          try dsimp only [HAct.put, List.set_cons_zero, List.set_cons_succ]
          refine q_seq e48 ?_
          refine q_region e49 rfl ?_
          refine q_op (dst := some 83) rfl (fun _ ho => ok_move ho (.tmp rfl)) ?_
          refine q_op (dst := some 6) rfl (fun _ ho => ok_assign ho (.tmp rfl)) ?_
          refine hr_region_end ?_
          try dsimp only [HAct.put, List.set_cons_zero, List.set_cons_succ]
          cases h
          exact q_ret e50 at_.at_ rfl (res1 rfl rfl) ⟨rfl, rfl⟩
        · refine q_cond_f e43 (.tmp rfl) (bfalse hc20) ?_
          refine q_skipc e51 ?_
          refine q_seq e52 ?_
          refine q_region e53 rfl ?_
          refine q_op (dst := some 84) rfl (fun _ ho => ok_move ho (.tmp rfl)) ?_
          refine q_op (dst := some 85) rfl (fun _ ho => ok_move ho (.tmp rfl)) ?_
          obtain ⟨p28, hp28, h⟩ := bindo h
          refine q_op (dst := some 86) rfl (fun _ ho => ok_slice (kl := .i64) (kh := .i64) (s := p17) (l := (Sl.len x0 : Int)) (h := (Sl.len p17 : Int)) ho tu24 si3 (.tmp rfl) (.inr ⟨_, rfl, (.tmp rfl)⟩) (.inl ⟨rfl, rfl⟩) hp28) ?_
          refine q_op (dst := some 87) rfl (fun _ ho => ok_move ho (.tmp rfl)) ?_
          try dsimp only [HAct.put, List.set_cons_zero, List.set_cons_succ]
          obtain ⟨p29, hp29, h⟩ := bindo h
          obtain ⟨p30, hp30, h⟩ := bindo h
          refine q_op (dst := some 88) rfl (fun _ ho => ok_copy (s := p28) (s1 := x2) el24 ho rfl (.tmp rfl) (.tmp rfl) hp29 hp30) ?_
          refine hr_region_end ?_
          try dsimp only [HAct.put, List.set_cons_zero, List.set_cons_succ]
          refine q_seq e54 ?_
          refine q_region e55 rfl ?_
          refine q_op (dst := some 89) rfl (fun _ ho => ok_move ho (.tmp rfl)) ?_
          refine q_op (dst := some 90) rfl (fun _ ho => ok_move ho (.tmp rfl)) ?_
          obtain ⟨p31, hp31, h⟩ := bindo h
          refine q_op (dst := some 91) rfl (fun _ ho => ok_slice (kl := .i64) (kh := .i64) (s := p17) (l := x1) (h := (Sl.len p17 : Int)) ho tu24 si3 (.tmp rfl) (.inr ⟨_, rfl, (.tmp rfl)⟩) (.inl ⟨rfl, rfl⟩) hp31) ?_
          refine q_op (dst := some 92) rfl (fun _ ho => ok_move ho (.tmp rfl)) ?_
          try dsimp only [HAct.put, List.set_cons_zero, List.set_cons_succ]
          obtain ⟨p32, hp32, h⟩ := bindo h
          refine q_call (dst := some 93) rfl (.func _) (.cons (.tmp rfl) (.cons (.tmp rfl) Evs.nil)) (HInv.static slices_rotateRight_int.at_ slices_rotateRight_int.body (slices_rotateRight_int.snd  hp32)) ?_
          rintro _ _ ⟨rfl, rfl⟩
          refine hr_region_end ?_
          try dsimp only [HAct.put, List.set_cons_zero, List.set_cons_succ]
          refine q_seq e56 ?_
          refine q_region e57 rfl ?_
          refine q_op (dst := some 94) rfl (fun _ ho => ok_move ho (.tmp rfl)) ?_
          refine q_op (dst := some 6) rfl (fun _ ho => ok_assign ho (.tmp rfl)) ?_
          refine hr_region_end ?_
          try dsimp only [HAct.put, List.set_cons_zero, List.set_cons_succ]
          cases h
          exact q_ret e58 at_.at_ rfl (res1 rfl rfl) ⟨rfl, rfl⟩
end
end slices_Insert_int_int
namespace slices_Insert_int_int_w
theorem at_ : FnAt Try.prog 28 Try.f28 := slices_Insert_int_int.at_
theorem body : Try.f28.body = some slices_Insert_int_int.c0 := slices_Insert_int_int.body
def f (x0 : Sl) (x1 : Int) (x2 : Sl) (S : HS) : Option ((Sl) × HS) := HS.ins S x0 x1 x2 1
theorem snd {base : Nat} {W0 : World} {β0 : Bt} {x0 : Sl} {x1 : Int} {x2 : Sl} {S : HS} {p : (Sl) × HS} (h : f x0 x1 x2 S = some p) : HCall Try.prog base W0 β0 28 [(Sl.hv x0), (.int .i64 x1), (Sl.hv x2)] S (fun v S1 => v = (Sl.hv p.1) ∧ S1 = p.2) :=
  ins_snd (rot := fun a b T => slices_rotateRight_int.f 0 a b T) (zr := [(.int .i64 0)]) (fun _ _ _ h => slices_Insert_int_int.snd (k := 0) h) h
end slices_Insert_int_int_w
namespace set_Set_int_Add
abbrev id : Nat := 18
theorem at_ : FnAt Try.prog 18 Try.f18 := ⟨Try.func18, by kernel_rfl⟩
noncomputable def c0 : Code := (Try.f18.body).getD .skip
noncomputable def c1 : Code := match c0 with | .seq x _ => x | _ => .skip
noncomputable def c2 : Code := match c0 with | .seq _ x => x | _ => .skip
noncomputable def c3 : Code := match c2 with | .seq x _ => x | _ => .skip
noncomputable def c4 : Code := match c2 with | .seq _ x => x | _ => .skip
noncomputable def c5 : Code := match c4 with | .seq x _ => x | _ => .skip
noncomputable def c6 : Code := match c5 with | .seq x _ => x | _ => .skip
noncomputable def c7 : Code := match c5 with | .seq _ x => x | _ => .skip
noncomputable def c8 : Code := match c7 with | .cond _ x _ => x | _ => .skip
noncomputable def c9 : Code := match c8 with | .seq x _ => x | _ => .skip
noncomputable def c10 : Code := match c8 with | .seq _ x => x | _ => .skip
noncomputable def c11 : Code := match c7 with | .cond _ _ x => x | _ => .skip
noncomputable def c12 : Code := match c4 with | .seq _ x => x | _ => .skip
noncomputable def c13 : Code := match c12 with | .seq x _ => x | _ => .skip
noncomputable def c14 : Code := match c13 with | .seq x _ => x | _ => .skip
noncomputable def c15 : Code := match c13 with | .seq _ x => x | _ => .skip
noncomputable def c16 : Code := match c15 with | .block _ x => x | _ => .skip
noncomputable def c17 : Code := match c16 with | .loop x => x | _ => .skip
noncomputable def c18 : Code := match c17 with | .seq x _ => x | _ => .skip
noncomputable def c19 : Code := match c17 with | .seq _ x => x | _ => .skip
noncomputable def c20 : Code := match c19 with | .seq x _ => x | _ => .skip
noncomputable def c21 : Code := match c20 with | .cond _ x _ => x | _ => .skip
noncomputable def c22 : Code := match c20 with | .cond _ _ x => x | _ => .skip
noncomputable def c23 : Code := match c19 with | .seq _ x => x | _ => .skip
noncomputable def c24 : Code := match c23 with | .seq x _ => x | _ => .skip
noncomputable def c25 : Code := match c24 with | .block _ x => x | _ => .skip
noncomputable def c26 : Code := match c25 with | .seq x _ => x | _ => .skip
noncomputable def c27 : Code := match c25 with | .seq _ x => x | _ => .skip
noncomputable def c28 : Code := match c27 with | .seq x _ => x | _ => .skip
noncomputable def c29 : Code := match c27 with | .seq _ x => x | _ => .skip
noncomputable def c30 : Code := match c29 with | .seq x _ => x | _ => .skip
noncomputable def c31 : Code := match c29 with | .seq _ x => x | _ => .skip
noncomputable def c32 : Code := match c31 with | .cond _ x _ => x | _ => .skip
noncomputable def c33 : Code := match c32 with | .seq x _ => x | _ => .skip
noncomputable def c34 : Code := match c32 with | .seq _ x => x | _ => .skip
noncomputable def c35 : Code := match c31 with | .cond _ _ x => x | _ => .skip
noncomputable def c36 : Code := match c23 with | .seq _ x => x | _ => .skip
noncomputable def c37 : Code := match c12 with | .seq _ x => x | _ => .skip
noncomputable def c38 : Code := match c37 with | .seq x _ => x | _ => .skip
noncomputable def c39 : Code := match c37 with | .seq _ x => x | _ => .skip
theorem e0 : c0 = .seq c1 c2 := by kernel_rfl
noncomputable def r1 : Array Oper := match c1 with | .region _ x _ => x | _ => #[]
theorem e1 : c1 = .region 0 r1 false := by kernel_rfl
theorem e2 : c2 = .seq c3 c4 := by kernel_rfl
noncomputable def r3 : Array Oper := match c3 with | .region _ x _ => x | _ => #[]
theorem e3 : c3 = .region 1 r3 false := by kernel_rfl
theorem e4 : c4 = .seq c5 c12 := by kernel_rfl
theorem e5 : c5 = .seq c6 c7 := by kernel_rfl
noncomputable def r6 : Array Oper := match c6 with | .region _ x _ => x | _ => #[]
theorem e6 : c6 = .region 2 r6 false := by kernel_rfl
theorem e7 : c7 = .cond (.tmp 11) c8 c11 := by kernel_rfl
theorem e8 : c8 = .seq c9 c10 := by kernel_rfl
noncomputable def r9 : Array Oper := match c9 with | .region _ x _ => x | _ => #[]
theorem e9 : c9 = .region 3 r9 false := by kernel_rfl
theorem e10 : c10 = .ret := by kernel_rfl
theorem e11 : c11 = .skip := by kernel_rfl
theorem e12 : c12 = .seq c13 c37 := by kernel_rfl
theorem e13 : c13 = .seq c14 c15 := by kernel_rfl
noncomputable def r14 : Array Oper := match c14 with | .region _ x _ => x | _ => #[]
theorem e14 : c14 = .region 4 r14 false := by kernel_rfl
theorem e15 : c15 = .block 0 c16 := by kernel_rfl
theorem e16 : c16 = .loop c17 := by kernel_rfl
theorem e17 : c17 = .seq c18 c19 := by kernel_rfl
noncomputable def r18 : Array Oper := match c18 with | .region _ x _ => x | _ => #[]
theorem e18 : c18 = .region 5 r18 false := by kernel_rfl
theorem e19 : c19 = .seq c20 c23 := by kernel_rfl
theorem e20 : c20 = .cond (.tmp 15) c21 c22 := by kernel_rfl
theorem e21 : c21 = .skip := by kernel_rfl
theorem e22 : c22 = .exit 0 := by kernel_rfl
theorem e23 : c23 = .seq c24 c36 := by kernel_rfl
theorem e24 : c24 = .block 1 c25 := by kernel_rfl
theorem e25 : c25 = .seq c26 c27 := by kernel_rfl
noncomputable def r26 : Array Oper := match c26 with | .region _ x _ => x | _ => #[]
theorem e26 : c26 = .region 6 r26 false := by kernel_rfl
theorem e27 : c27 = .seq c28 c29 := by kernel_rfl
noncomputable def r28 : Array Oper := match c28 with | .region _ x _ => x | _ => #[]
theorem e28 : c28 = .region 7 r28 false := by kernel_rfl
theorem e29 : c29 = .seq c30 c31 := by kernel_rfl
noncomputable def r30 : Array Oper := match c30 with | .region _ x _ => x | _ => #[]
theorem e30 : c30 = .region 8 r30 false := by kernel_rfl
theorem e31 : c31 = .cond (.tmp 28) c32 c35 := by kernel_rfl
theorem e32 : c32 = .seq c33 c34 := by kernel_rfl
noncomputable def r33 : Array Oper := match c33 with | .region _ x _ => x | _ => #[]
theorem e33 : c33 = .region 9 r33 false := by kernel_rfl
noncomputable def r34 : Array Oper := match c34 with | .region _ x _ => x | _ => #[]
theorem e34 : c34 = .region 10 r34 false := by kernel_rfl
theorem e35 : c35 = .skip := by kernel_rfl
noncomputable def r36 : Array Oper := match c36 with | .region _ x _ => x | _ => #[]
theorem e36 : c36 = .region 11 r36 false := by kernel_rfl
theorem e37 : c37 = .seq c38 c39 := by kernel_rfl
noncomputable def r38 : Array Oper := match c38 with | .region _ x _ => x | _ => #[]
theorem e38 : c38 = .region 12 r38 false := by kernel_rfl
theorem e39 : c39 = .ret := by kernel_rfl
theorem body : Try.f18.body = some c0 := by kernel_rfl
section
variable {base : Nat} {W0 : World} {β0 : Bt}
def J1 (k : Nat) (rec0 : (Option HA) → Int → Sl → Int → Int → HS → Option ((Int) × HS)) (y0 : (Option HA)) (y5 : Int) (y12 : Sl) (y13 : Int) (y14 : Int) (S : HS) : Option ((Int) × HS) :=
  rec0 y0 y5 y12 y13 (w64 (y14 + 1)) S
theorem J1_snd {k : Nat} {rec0 : (Option HA) → Int → Sl → Int → Int → HS → Option ((Int) × HS)} (hrec0 : ∀ ⦃y0 : (Option HA)⦄ ⦃y5 : Int⦄ ⦃y12 : Sl⦄ ⦃y13 : Int⦄ ⦃y14 : Int⦄ ⦃S : HS⦄ ⦃p : (Int) × HS⦄ ⦃g1 g2 g3 g4 g6 g7 g8 g9 g10 g11 g15 g16 g17 g18 g19 g20 g21 g22 g23 g24 g25 g26 g27 g28 g29 g30 g31 g32 g33 g34 g35 g36 g37 g38 g39 g40 g41 g42 g43 : HV⦄, rec0 y0 y5 y12 y13 y14 S = some p → HRun Try.prog base W0 β0 18 none [.inLoop c17, .inBlock 0, .code c37] ⟨[(.ptr y0), g1, g2, g3, g4, (.int .i64 y5), g6, g7, g8, g9, g10, g11, (Sl.hv y12), (.int .i64 y13), (.int .i64 y14), g15, g16, g17, g18, g19, g20, g21, g22, g23, g24, g25, g26, g27, g28, g29, g30, g31, g32, g33, g34, g35, g36, g37, g38, g39, g40, g41, g42, g43], []⟩ S (fun v S1 => v = (.int .i64 p.1) ∧ S1 = p.2)) {y0 : (Option HA)} {y5 : Int} {y12 : Sl} {y13 : Int} {y14 : Int} {S : HS} {p : (Int) × HS} {g1 g2 g3 g4 g6 g7 g8 g9 g10 g11 g15 g16 g17 g18 g19 g20 g21 g22 g23 g24 g25 g26 g27 g28 g29 g30 g31 g32 g33 g34 g35 g36 g37 g38 g39 g40 g41 g42 g43 : HV} (h : J1 k rec0 y0 y5 y12 y13 y14 S = some p) : HRun Try.prog base W0 β0 18 none [.code c36, .inLoop c17, .inBlock 0, .code c37] ⟨[(.ptr y0), g1, g2, g3, g4, (.int .i64 y5), g6, g7, g8, g9, g10, g11, (Sl.hv y12), (.int .i64 y13), (.int .i64 y14), g15, g16, g17, g18, g19, g20, g21, g22, g23, g24, g25, g26, g27, g28, g29, g30, g31, g32, g33, g34, g35, g36, g37, g38, g39, g40, g41, g42, g43], []⟩ S (fun v S1 => v = (.int .i64 p.1) ∧ S1 = p.2) := by
  unfold J1 at h
  refine q_region e36 rfl ?_
  refine q_op (dst := some 42) rfl (fun _ ho => ok_ibin ho (.tmp rfl) (.int _ _) rfl) ?_
  refine q_op (dst := some 14) rfl (fun _ ho => ok_move ho (.tmp rfl)) ?_
  refine hr_region_end ?_
  try dsimp only [HAct.put, List.set_cons_zero, List.set_cons_succ]
  try dsimp only [HAct.put, List.set_cons_zero, List.set_cons_succ]
  exact hrec0 h
def L0 (k : Nat) : Nat → (Option HA) → Int → Sl → Int → Int → HS → Option ((Int) × HS)
  | 0, _, _, _, _, _, _ => none
  | n + 1, y0, y5, y12, y13, y14, S =>
    (if y14 < y13 then
    (Option.bind (HS.idx S y12 y14 1) fun p3 =>
    (Option.bind (HS.ldI S .i64 p3) fun p4 =>
    (Option.bind (y0) fun p5 =>
    (Option.bind (HS.ldSl S (HA.fld p5 0)) fun p6 =>
    (Option.bind (slices_BinarySearch_int_int.f k p6 p4 S) fun p7 =>
    (if (!p7.1.2) = true then
    (Option.bind (y0) fun p9 =>
    (Option.bind (HS.ldSl p7.2 (HA.fld p9 0)) fun p10 =>
    (letv (HS.lit p7.2 [[(.int .i64 p4)]] 1) fun p11 =>
    (Option.bind (slices_Insert_int_int_w.f p10 p7.1.1 (p11.1) (p11.2)) fun p12 =>
    (Option.bind (y0) fun p13 =>
    (Option.bind (HS.sets p12.2 (HA.fld p13 0) [(Sl.hv p12.1)]) fun p14 =>
    J1 k (L0 k n) y0 (w64 (y5 + 1)) y12 y13 y14 p14)))))) else
    J1 k (L0 k n) y0 y5 y12 y13 y14 p7.2)))))) else
    some (y5, S))
theorem L0_snd {k : Nat}  : ∀ {n : Nat} ⦃y0 : (Option HA)⦄ ⦃y5 : Int⦄ ⦃y12 : Sl⦄ ⦃y13 : Int⦄ ⦃y14 : Int⦄ ⦃S : HS⦄ ⦃p : (Int) × HS⦄ ⦃g1 g2 g3 g4 g6 g7 g8 g9 g10 g11 g15 g16 g17 g18 g19 g20 g21 g22 g23 g24 g25 g26 g27 g28 g29 g30 g31 g32 g33 g34 g35 g36 g37 g38 g39 g40 g41 g42 g43 : HV⦄, L0 k n y0 y5 y12 y13 y14 S = some p → HRun Try.prog base W0 β0 18 none [.inLoop c17, .inBlock 0, .code c37] ⟨[(.ptr y0), g1, g2, g3, g4, (.int .i64 y5), g6, g7, g8, g9, g10, g11, (Sl.hv y12), (.int .i64 y13), (.int .i64 y14), g15, g16, g17, g18, g19, g20, g21, g22, g23, g24, g25, g26, g27, g28, g29, g30, g31, g32, g33, g34, g35, g36, g37, g38, g39, g40, g41, g42, g43], []⟩ S (fun v S1 => v = (.int .i64 p.1) ∧ S1 = p.2) := by
  intro n
  induction n with
  | zero => intro _ _ _ _ _ _ _ _ _ _ _ _ _ _ _ _ _ _ _ _ _ _ _ _ _ _ _ _ _ _ _ _ _ _ _ _ _ _ _ _ _ _ _ _ _ _ h; cases h
  | succ n ih =>
    intro y0 y5 y12 y13 y14 S p g1 g2 g3 g4 g6 g7 g8 g9 g10 g11 g15 g16 g17 g18 g19 g20 g21 g22 g23 g24 g25 g26 g27 g28 g29 g30 g31 g32 g33 g34 g35 g36 g37 g38 g39 g40 g41 g42 g43 h
    simp only [L0] at h
    refine hr_inLoop ?_
    refine q_seq e17 ?_
    refine q_region e18 rfl ?_
    refine q_op (dst := some 15) rfl (fun _ ho => ok_ibin ho (.tmp rfl) (.tmp rfl) rfl) ?_
    refine hr_region_end ?_
    try dsimp only [HAct.put, List.set_cons_zero, List.set_cons_succ]
    refine q_seq e19 ?_
    rcases ifc h with ⟨hc2, h⟩ | ⟨hc2, h⟩
    · refine q_cond_t e20 (.tmp rfl) (decide_eq_true hc2) ?_
      refine q_skipc e21 ?_
      refine q_seq e23 ?_
      refine q_block e24 ?_
      refine q_seq e25 ?_
      refine q_region e26 rfl ?_
      obtain ⟨p3, hp3, h⟩ := bindo h
      refine q_op (dst := some 16) rfl (fun _ ho => ok_indexAddr (s := y12) ho tu24 sz3 (.tmp rfl) (.tmp rfl) hp3) ?_
      obtain ⟨p4, hp4, h⟩ := bindo h
      refine q_op (dst := some 17) rfl (fun _ ho => ok_load_s ho sc3 (.tmp rfl) rfl (ldI_out hp4)) ?_
      refine q_op (dst := some 7) rfl (fun _ ho => ok_assign ho (.tmp rfl)) ?_
      refine hr_region_end ?_
      try dsimp only [HAct.put, List.set_cons_zero, List.set_cons_succ]
      refine q_seq e27 ?_
      refine q_region e28 rfl ?_
      refine q_op (dst := some 19) rfl (fun _ ho => ok_move ho (.tmp rfl)) ?_
      obtain ⟨p5, hp5, h⟩ := bindo h
      refine q_op (dst := some 20) rfl (fun _ ho => ok_nilCheck_p ho (.tmp rfl) hp5) ?_
      refine q_op (dst := some 21) rfl (fun _ ho => ok_fieldAddr_s ho fi50_0 (by decide) (.tmp rfl) rfl) ?_
      obtain ⟨p6, hp6, h⟩ := bindo h
      refine q_op (dst := some 22) rfl (fun _ ho => ok_load_s ho sc24 (.tmp rfl) rfl (ldSl_out hp6)) ?_
      try dsimp only [HAct.put, List.set_cons_zero, List.set_cons_succ]
      refine q_op (dst := some 23) rfl (fun _ ho => ok_move ho (.tmp rfl)) ?_
      obtain ⟨p7, hp7, h⟩ := bindo h
      refine q_call (dst := some 24) rfl (.func _) (.cons (.tmp rfl) (.cons (.tmp rfl) Evs.nil)) (HInv.static slices_BinarySearch_int_int.at_ slices_BinarySearch_int_int.body (slices_BinarySearch_int_int.snd  hp7)) ?_
      rintro _ _ ⟨rfl, rfl⟩
      refine q_op (dst := some 18) rfl (fun _ ho => ok_move ho (.tmp rfl)) ?_
      refine q_op (dst := some 25) rfl (fun _ ho => ok_extract ho (.tmp rfl) rfl) ?_
      try dsimp only [HAct.put, List.set_cons_zero, List.set_cons_succ]
      refine q_op (dst := some 26) rfl (fun _ ho => ok_extract ho (.tmp rfl) rfl) ?_
      refine q_op (dst := some 8) rfl (fun _ ho => ok_assign ho (.tmp rfl)) ?_
      refine q_op (dst := some 9) rfl (fun _ ho => ok_assign ho (.tmp rfl)) ?_
      refine hr_region_end ?_
      try dsimp only [HAct.put, List.set_cons_zero, List.set_cons_succ]
      refine q_seq e29 ?_
      refine q_region e30 rfl ?_
      refine q_op (dst := some 27) rfl (fun _ ho => ok_move ho (.tmp rfl)) ?_
      refine q_op (dst := some 28) rfl (fun _ ho => ok_not ho (.tmp rfl)) ?_
      refine hr_region_end ?_
      try dsimp only [HAct.put, List.set_cons_zero, List.set_cons_succ]
      rcases ifc h with ⟨hc8, h⟩ | ⟨hc8, h⟩
      · refine q_cond_t e31 (.tmp rfl) hc8 ?_
        refine q_seq e32 ?_
        refine q_region e33 rfl ?_
        refine q_op (dst := some 29) rfl (fun _ ho => ok_move ho (.tmp rfl)) ?_
        refine q_op (dst := some 30) rfl (fun _ ho => ok_move ho (.tmp rfl)) ?_
        obtain ⟨p9, hp9, h⟩ := bindo h
        refine q_op (dst := some 31) rfl (fun _ ho => ok_nilCheck_p ho (.tmp rfl) hp9) ?_
        refine q_op (dst := some 32) rfl (fun _ ho => ok_fieldAddr_s ho fi50_0 (by decide) (.tmp rfl) rfl) ?_
        try dsimp only [HAct.put, List.set_cons_zero, List.set_cons_succ]
        obtain ⟨p10, hp10, h⟩ := bindo h
        refine q_op (dst := some 33) rfl (fun _ ho => ok_load_s ho sc24 (.tmp rfl) rfl (ldSl_out hp10)) ?_
        refine q_op (dst := some 34) rfl (fun _ ho => ok_move ho (.tmp rfl)) ?_
        refine q_op (dst := some 35) rfl (fun _ ho => ok_move ho (.tmp rfl)) ?_
        obtain ⟨p11, hp11, h⟩ := leto h
        refine q_op (dst := some 36) rfl (fun _ ho => ok_buildSlice_s (xs := [(.tmp 35)]) el24 ho rfl rfl (by decide) (.cons (.tmp rfl) Evs.nil) rfl rfl hp11) ?_
        try dsimp only [HAct.put, List.set_cons_zero, List.set_cons_succ]
        obtain ⟨p12, hp12, h⟩ := bindo h
        refine q_call (dst := some 37) rfl (.func _) (.cons (.tmp rfl) (.cons (.tmp rfl) (.cons (.tmp rfl) Evs.nil))) (HInv.static slices_Insert_int_int_w.at_ slices_Insert_int_int_w.body (slices_Insert_int_int_w.snd  hp12)) ?_
        rintro _ _ ⟨rfl, rfl⟩
        obtain ⟨p13, hp13, h⟩ := bindo h
        refine q_op (dst := some 38) rfl (fun _ ho => ok_nilCheck_p ho (.tmp rfl) hp13) ?_
        refine q_op (dst := some 39) rfl (fun _ ho => ok_fieldAddr_s ho fi50_0 (by decide) (.tmp rfl) rfl) ?_
        obtain ⟨p14, hp14, h⟩ := bindo h
        refine q_op (dst := none) rfl (fun _ ho => ok_store_s (v := (Sl.hv p12.1)) ho sz24 (.tmp rfl) rfl (.tmp rfl) rfl hp14) ?_
        refine hr_region_end ?_
        try dsimp only [HAct.put, List.set_cons_zero, List.set_cons_succ]
        refine q_region e34 rfl ?_
        refine q_op (dst := some 40) rfl (fun _ ho => ok_move ho (.tmp rfl)) ?_
        refine q_op (dst := some 41) rfl (fun _ ho => ok_ibin ho (.tmp rfl) (.int _ _) rfl) ?_
        refine q_op (dst := some 5) rfl (fun _ ho => ok_assign ho (.tmp rfl)) ?_
        refine hr_region_end ?_
        try dsimp only [HAct.put, List.set_cons_zero, List.set_cons_succ]
        refine hr_inBlock ?_
        try dsimp only [HAct.put, List.set_cons_zero, List.set_cons_succ]
        exact J1_snd ih h
      · refine q_cond_f e31 (.tmp rfl) (bfalse hc8) ?_
        refine q_skipc e35 ?_
        refine hr_inBlock ?_
        try dsimp only [HAct.put, List.set_cons_zero, List.set_cons_succ]
        exact J1_snd ih h
    · refine q_cond_f e20 (.tmp rfl) (decide_eq_false hc2) ?_
      refine q_exit e22 rfl ?_
      refine q_seq e37 ?_
      refine q_region e38 rfl ?_
      refine q_op (dst := some 43) rfl (fun _ ho => ok_move ho (.tmp rfl)) ?_
      refine q_op (dst := some 4) rfl (fun _ ho => ok_assign ho (.tmp rfl)) ?_
      refine hr_region_end ?_
      try dsimp only [HAct.put, List.set_cons_zero, List.set_cons_succ]
      cases h
      exact q_ret e39 at_.at_ rfl (res1 rfl rfl) ⟨rfl, rfl⟩
def f (k : Nat) (x0 : (Option HA)) (x1 : Sl) (S : HS) : Option ((Int) × HS) :=
  (if (Option.isNone x0) = true then
  some (0, S) else
  L0 k k x0 0 x1 (Sl.len x1 : Int) 0 S)
theorem snd {k : Nat} {x0 : (Option HA)} {x1 : Sl} {S : HS}  {p : (Int) × HS} (h : f k x0 x1 S = some p) : HCall Try.prog base W0 β0 18 [(.ptr x0), (Sl.hv x1)] S (fun v S1 => v = (.int .i64 p.1) ∧ S1 = p.2) := by
  unfold f at h
  refine HCall.of_run at_.at_ body ?_
  show HRun Try.prog base W0 β0 18 none [.code c0] ⟨[(.ptr x0), (Sl.hv x1), .tup [], .tup [], .tup [], .tup [], .tup [], .tup [], .tup [], .tup [], .tup [], .tup [], .tup [], .tup [], .tup [], .tup [], .tup [], .tup [], .tup [], .tup [], .tup [], .tup [], .tup [], .tup [], .tup [], .tup [], .tup [], .tup [], .tup [], .tup [], .tup [], .tup [], .tup [], .tup [], .tup [], .tup [], .tup [], .tup [], .tup [], .tup [], .tup [], .tup [], .tup [], .tup []], []⟩ S _
  refine q_seq e0 ?_
  refine q_region e1 rfl ?_
  refine q_op (dst := some 4) rfl (fun _ ho => ok_assign ho (.int _ _)) ?_
  refine hr_region_end ?_
  try dsimp only [HAct.put, List.set_cons_zero, List.set_cons_succ]
  refine q_seq e2 ?_
  refine q_region e3 rfl ?_
  refine q_op (dst := some 5) rfl (fun _ ho => ok_assign ho (.int _ _)) ?_
  refine hr_region_end ?_
  try dsimp only [HAct.put, List.set_cons_zero, List.set_cons_succ]
  refine q_seq e4 ?_
  refine q_seq e5 ?_
  refine q_region e6 rfl ?_
  refine q_op (dst := some 10) rfl (fun _ ho => ok_move ho (.tmp rfl)) ?_
  refine q_op (dst := some 11) rfl (fun _ ho => ok_nil_ptr ho tu26 (.tmp rfl) (.inl ⟨rfl, rfl⟩)) ?_
  refine hr_region_end ?_
  try dsimp only [HAct.put, List.set_cons_zero, List.set_cons_succ]
  rcases ifc h with ⟨hc1, h⟩ | ⟨hc1, h⟩
  · refine q_cond_t e7 (.tmp rfl) hc1 ?_
    refine q_seq e8 ?_
    refine q_region e9 rfl ?_
    refine q_op (dst := some 4) rfl (fun _ ho => ok_assign ho (.int _ _)) ?_
    refine hr_region_end ?_
    try dsimp only [HAct.put, List.set_cons_zero, List.set_cons_succ]
    cases h
    exact q_ret e10 at_.at_ rfl (res1 rfl rfl) ⟨rfl, rfl⟩
  · refine q_cond_f e7 (.tmp rfl) (bfalse hc1) ?_
    refine q_skipc e11 ?_
    refine q_seq e12 ?_
    refine q_seq e13 ?_
    refine q_region e14 rfl ?_
    refine q_op (dst := some 12) rfl (fun _ ho => ok_move ho (.tmp rfl)) ?_
    refine q_op (dst := some 13) rfl (fun _ ho => ok_len_sl (q := Sl.a x1) (n := Sl.len x1) (z := Sl.cap x1) ho rfl tu24 (.tmp rfl)) ?_
    refine q_op (dst := some 14) rfl (fun _ ho => ok_move ho (.int _ _)) ?_
    refine hr_region_end ?_
    try dsimp only [HAct.put, List.set_cons_zero, List.set_cons_succ]
    refine q_block e15 ?_
    refine q_loop e16 ?_
    try dsimp only [HAct.put, List.set_cons_zero, List.set_cons_succ]
    exact L0_snd  h
end
end set_Set_int_Add
namespace set_Of_int
abbrev id : Nat := 7
theorem at_ : FnAt Try.prog 7 Try.f7 := ⟨Try.func7, by kernel_rfl⟩
noncomputable def c0 : Code := (Try.f7.body).getD .skip
noncomputable def c1 : Code := match c0 with | .seq x _ => x | _ => .skip
noncomputable def c2 : Code := match c0 with | .seq _ x => x | _ => .skip
noncomputable def c3 : Code := match c2 with | .seq x _ => x | _ => .skip
noncomputable def c4 : Code := match c2 with | .seq _ x => x | _ => .skip
noncomputable def c5 : Code := match c4 with | .seq x _ => x | _ => .skip
noncomputable def c6 : Code := match c4 with | .seq _ x => x | _ => .skip
noncomputable def c7 : Code := match c6 with | .seq x _ => x | _ => .skip
noncomputable def c8 : Code := match c6 with | .seq _ x => x | _ => .skip
theorem e0 : c0 = .seq c1 c2 := by kernel_rfl
noncomputable def r1 : Array Oper := match c1 with | .region _ x _ => x | _ => #[]
theorem e1 : c1 = .region 0 r1 false := by kernel_rfl
theorem e2 : c2 = .seq c3 c4 := by kernel_rfl
noncomputable def r3 : Array Oper := match c3 with | .region _ x _ => x | _ => #[]
theorem e3 : c3 = .region 1 r3 false := by kernel_rfl
theorem e4 : c4 = .seq c5 c6 := by kernel_rfl
noncomputable def r5 : Array Oper := match c5 with | .region _ x _ => x | _ => #[]
theorem e5 : c5 = .region 2 r5 false := by kernel_rfl
theorem e6 : c6 = .seq c7 c8 := by kernel_rfl
noncomputable def r7 : Array Oper := match c7 with | .region _ x _ => x | _ => #[]
theorem e7 : c7 = .region 3 r7 false := by kernel_rfl
theorem e8 : c8 = .ret := by kernel_rfl
theorem body : Try.f7.body = some c0 := by kernel_rfl
section
variable {base : Nat} {W0 : World} {β0 : Bt}
def f (k : Nat) (x0 : Sl) (S : HS) : Option (((Option HA)) × HS) :=
  (letv (HS.new S (.cells 1 [[(Sl.hv Sl.nil)]] true)) fun p1 =>
  (Option.bind (set_Set_int_Add.f k (some (HA.cell0 S.next)) x0 p1) fun p2 =>
  some ((some (HA.cell0 S.next)), p2.2)))
theorem snd {k : Nat} {x0 : Sl} {S : HS}  {p : ((Option HA)) × HS} (h : f k x0 S = some p) : HCall Try.prog base W0 β0 7 [(Sl.hv x0)] S (fun v S1 => v = (.ptr p.1) ∧ S1 = p.2) := by
  unfold f at h
  refine HCall.of_run at_.at_ body ?_
  show HRun Try.prog base W0 β0 7 none [.code c0] ⟨[(Sl.hv x0), .tup [], .tup [], .tup [], .tup [], .tup [], .tup [], .tup [], .tup [], .tup []], []⟩ S _
  refine q_seq e0 ?_
  refine q_region e1 rfl ?_
  refine q_op (dst := some 2) rfl (fun _ ho => ok_assign ho (.const fun _ => .ptrNil)) ?_
  refine hr_region_end ?_
  try dsimp only [HAct.put, List.set_cons_zero, List.set_cons_succ]
  refine q_seq e2 ?_
  refine q_region e3 rfl ?_
  refine q_op (dst := some 4) rfl (fun _ ho => ok_build (is := []) (xs := []) (r := [(Sl.hv Sl.nil)]) st50 ho rfl rfl Evs.nil rfl) ?_
  obtain ⟨p1, hp1, h⟩ := leto h
  refine q_op (dst := some 5) rfl (fun _ ho => ok_box_e ho (.tmp rfl) (Nat.zero_lt_succ _) rfl hp1) ?_
  refine q_op (dst := some 3) rfl (fun _ ho => ok_assign ho (.tmp rfl)) ?_
  refine hr_region_end ?_
  try dsimp only [HAct.put, List.set_cons_zero, List.set_cons_succ]
  refine q_seq e4 ?_
  refine q_region e5 rfl ?_
  refine q_op (dst := some 6) rfl (fun _ ho => ok_move ho (.tmp rfl)) ?_
  refine q_op (dst := some 7) rfl (fun _ ho => ok_move ho (.tmp rfl)) ?_
  obtain ⟨p2, hp2, h⟩ := bindo h
  refine q_call (dst := some 8) rfl (.func _) (.cons (.tmp rfl) (.cons (.tmp rfl) Evs.nil)) (HInv.static set_Set_int_Add.at_ set_Set_int_Add.body (set_Set_int_Add.snd  hp2)) ?_
  rintro _ _ ⟨rfl, rfl⟩
  refine hr_region_end ?_
  try dsimp only [HAct.put, List.set_cons_zero, List.set_cons_succ]
  refine q_seq e6 ?_
  refine q_region e7 rfl ?_
  refine q_op (dst := some 9) rfl (fun _ ho => ok_move ho (.tmp rfl)) ?_
  refine q_op (dst := some 2) rfl (fun _ ho => ok_assign ho (.tmp rfl)) ?_
  refine hr_region_end ?_
  try dsimp only [HAct.put, List.set_cons_zero, List.set_cons_succ]
  cases h
  exact q_ret e8 at_.at_ rfl (res1 rfl rfl) ⟨rfl, rfl⟩
end
end set_Of_int
namespace slices_Clone_int_int
abbrev id : Nat := 30
theorem at_ : FnAt Try.prog 30 Try.f30 := ⟨Try.func30, by kernel_rfl⟩
noncomputable def c0 : Code := (Try.f30.body).getD .skip
noncomputable def c1 : Code := match c0 with | .seq x _ => x | _ => .skip
noncomputable def c2 : Code := match c0 with | .seq _ x => x | _ => .skip
noncomputable def c3 : Code := match c2 with | .seq x _ => x | _ => .skip
noncomputable def c4 : Code := match c3 with | .seq x _ => x | _ => .skip
noncomputable def c5 : Code := match c3 with | .seq _ x => x | _ => .skip
noncomputable def c6 : Code := match c5 with | .cond _ x _ => x | _ => .skip
noncomputable def c7 : Code := match c6 with | .seq x _ => x | _ => .skip
noncomputable def c8 : Code := match c6 with | .seq _ x => x | _ => .skip
noncomputable def c9 : Code := match c5 with | .cond _ _ x => x | _ => .skip
noncomputable def c10 : Code := match c2 with | .seq _ x => x | _ => .skip
noncomputable def c11 : Code := match c10 with | .seq x _ => x | _ => .skip
noncomputable def c12 : Code := match c10 with | .seq _ x => x | _ => .skip
theorem e0 : c0 = .seq c1 c2 := by kernel_rfl
noncomputable def r1 : Array Oper := match c1 with | .region _ x _ => x | _ => #[]
theorem e1 : c1 = .region 0 r1 false := by kernel_rfl
theorem e2 : c2 = .seq c3 c10 := by kernel_rfl
theorem e3 : c3 = .seq c4 c5 := by kernel_rfl
noncomputable def r4 : Array Oper := match c4 with | .region _ x _ => x | _ => #[]
theorem e4 : c4 = .region 1 r4 false := by kernel_rfl
theorem e5 : c5 = .cond (.tmp 4) c6 c9 := by kernel_rfl
theorem e6 : c6 = .seq c7 c8 := by kernel_rfl
noncomputable def r7 : Array Oper := match c7 with | .region _ x _ => x | _ => #[]
theorem e7 : c7 = .region 2 r7 false := by kernel_rfl
theorem e8 : c8 = .ret := by kernel_rfl
theorem e9 : c9 = .skip := by kernel_rfl
theorem e10 : c10 = .seq c11 c12 := by kernel_rfl
noncomputable def r11 : Array Oper := match c11 with | .region _ x _ => x | _ => #[]
theorem e11 : c11 = .region 3 r11 false := by kernel_rfl
theorem e12 : c12 = .ret := by kernel_rfl
theorem body : Try.f30.body = some c0 := by kernel_rfl
section
variable {base : Nat} {W0 : World} {β0 : Bt}
def f (x0 : Sl) (S : HS) : Option ((Sl) × HS) :=
  (if (Option.isNone (Sl.a x0)) = true then
  some (Sl.nil, S) else
  (letv (HS.lit S [] 1) fun p2 =>
  (Option.bind (HS.rows (p2.2) x0 1) fun p3 =>
  (Option.bind (HS.app (p2.2) (p2.1) p3 1) fun p4 =>
  some ((p4.1), (p4.2))))))
theorem snd {x0 : Sl} {S : HS}  {p : (Sl) × HS} (h : f x0 S = some p) : HCall Try.prog base W0 β0 30 [(Sl.hv x0)] S (fun v S1 => v = (Sl.hv p.1) ∧ S1 = p.2) := by
  unfold f at h
  refine HCall.of_run at_.at_ body ?_
  show HRun Try.prog base W0 β0 30 none [.code c0] ⟨[(Sl.hv x0), .tup [], .tup [], .tup [], .tup [], .tup [], .tup [], .tup []], []⟩ S _
  refine q_seq e0 ?_
  refine q_region e1 rfl ?_
  refine q_op (dst := some 2) rfl (fun _ ho => ok_assign ho (.const fun _ => .slNil none)) ?_
  refine hr_region_end ?_
  try dsimp only [HAct.put, List.set_cons_zero, List.set_cons_succ]
  refine q_seq e2 ?_
  refine q_seq e3 ?_
  refine q_region e4 rfl ?_
  refine q_op (dst := some 3) rfl (fun _ ho => ok_move ho (.tmp rfl)) ?_
  refine q_op (dst := some 4) rfl (fun _ ho => ok_nil_sl ho tu24 (.tmp rfl) (.inl ⟨rfl, rfl⟩)) ?_
  refine hr_region_end ?_
  try dsimp only [HAct.put, List.set_cons_zero, List.set_cons_succ]
  rcases ifc h with ⟨hc1, h⟩ | ⟨hc1, h⟩
  · refine q_cond_t e5 (.tmp rfl) hc1 ?_
    refine q_seq e6 ?_
    refine q_region e7 rfl ?_
    refine q_op (dst := some 2) rfl (fun _ ho => ok_assign ho (.const fun _ => .slNil none)) ?_
    refine hr_region_end ?_
    try dsimp only [HAct.put, List.set_cons_zero, List.set_cons_succ]
    cases h
    exact q_ret e8 at_.at_ rfl (res1 rfl rfl) ⟨rfl, rfl⟩
  · refine q_cond_f e5 (.tmp rfl) (bfalse hc1) ?_
    refine q_skipc e9 ?_
    refine q_seq e10 ?_
    refine q_region e11 rfl ?_
    obtain ⟨p2, hp2, h⟩ := leto h
    refine q_op (dst := some 5) rfl (fun _ ho => ok_buildSlice_s (xs := []) el24 ho rfl rfl (by decide) Evs.nil rfl rfl hp2) ?_
    refine q_op (dst := some 6) rfl (fun _ ho => ok_move ho (.tmp rfl)) ?_
    obtain ⟨p3, hp3, h⟩ := bindo h
    obtain ⟨p4, hp4, h⟩ := bindo h
    refine q_op (dst := some 7) rfl (fun _ ho => ok_append (s := (p2.1)) (s1 := x0) el24 ho rfl rfl ⟨_, tu24⟩ (.tmp rfl) (.tmp rfl) hp3 hp4) ?_
    refine q_op (dst := some 2) rfl (fun _ ho => ok_assign ho (.tmp rfl)) ?_
    refine hr_region_end ?_
    try dsimp only [HAct.put, List.set_cons_zero, List.set_cons_succ]
    cases h
    exact q_ret e12 at_.at_ rfl (res1 rfl rfl) ⟨rfl, rfl⟩
end
end slices_Clone_int_int
namespace set_Set_int_List
abbrev id : Nat := 20
theorem at_ : FnAt Try.prog 20 Try.f20 := ⟨Try.func20, by kernel_rfl⟩
noncomputable def c0 : Code := (Try.f20.body).getD .skip
noncomputable def c1 : Code := match c0 with | .seq x _ => x | _ => .skip
noncomputable def c2 : Code := match c0 with | .seq _ x => x | _ => .skip
noncomputable def c3 : Code := match c2 with | .seq x _ => x | _ => .skip
noncomputable def c4 : Code := match c3 with | .seq x _ => x | _ => .skip
noncomputable def c5 : Code := match c3 with | .seq _ x => x | _ => .skip
noncomputable def c6 : Code := match c5 with | .cond _ x _ => x | _ => .skip
noncomputable def c7 : Code := match c6 with | .seq x _ => x | _ => .skip
noncomputable def c8 : Code := match c6 with | .seq _ x => x | _ => .skip
noncomputable def c9 : Code := match c5 with | .cond _ _ x => x | _ => .skip
noncomputable def c10 : Code := match c2 with | .seq _ x => x | _ => .skip
noncomputable def c11 : Code := match c10 with | .seq x _ => x | _ => .skip
noncomputable def c12 : Code := match c10 with | .seq _ x => x | _ => .skip
theorem e0 : c0 = .seq c1 c2 := by kernel_rfl
noncomputable def r1 : Array Oper := match c1 with | .region _ x _ => x | _ => #[]
theorem e1 : c1 = .region 0 r1 false := by kernel_rfl
theorem e2 : c2 = .seq c3 c10 := by kernel_rfl
theorem e3 : c3 = .seq c4 c5 := by kernel_rfl
noncomputable def r4 : Array Oper := match c4 with | .region _ x _ => x | _ => #[]
theorem e4 : c4 = .region 1 r4 false := by kernel_rfl
theorem e5 : c5 = .cond (.tmp 4) c6 c9 := by kernel_rfl
theorem e6 : c6 = .seq c7 c8 := by kernel_rfl
noncomputable def r7 : Array Oper := match c7 with | .region _ x _ => x | _ => #[]
theorem e7 : c7 = .region 2 r7 false := by kernel_rfl
theorem e8 : c8 = .ret := by kernel_rfl
theorem e9 : c9 = .skip := by kernel_rfl
theorem e10 : c10 = .seq c11 c12 := by kernel_rfl
noncomputable def r11 : Array Oper := match c11 with | .region _ x _ => x | _ => #[]
theorem e11 : c11 = .region 3 r11 false := by kernel_rfl
theorem e12 : c12 = .ret := by kernel_rfl
theorem body : Try.f20.body = some c0 := by kernel_rfl
section
variable {base : Nat} {W0 : World} {β0 : Bt}
def f (x0 : (Option HA)) (S : HS) : Option ((Sl) × HS) :=
  (if (Option.isNone x0) = true then
  some (Sl.nil, S) else
  (Option.bind (x0) fun p2 =>
  (Option.bind (HS.ldSl S (HA.fld p2 0)) fun p3 =>
  (Option.bind (slices_Clone_int_int.f p3 S) fun p4 =>
  some (p4.1, p4.2)))))
theorem snd {x0 : (Option HA)} {S : HS}  {p : (Sl) × HS} (h : f x0 S = some p) : HCall Try.prog base W0 β0 20 [(.ptr x0)] S (fun v S1 => v = (Sl.hv p.1) ∧ S1 = p.2) := by
  unfold f at h
  refine HCall.of_run at_.at_ body ?_
  show HRun Try.prog base W0 β0 20 none [.code c0] ⟨[(.ptr x0), .tup [], .tup [], .tup [], .tup [], .tup [], .tup [], .tup [], .tup [], .tup []], []⟩ S _
  refine q_seq e0 ?_
  refine q_region e1 rfl ?_
  refine q_op (dst := some 2) rfl (fun _ ho => ok_assign ho (.const fun _ => .slNil none)) ?_
  refine hr_region_end ?_
  try dsimp only [HAct.put, List.set_cons_zero, List.set_cons_succ]
  refine q_seq e2 ?_
  refine q_seq e3 ?_
  refine q_region e4 rfl ?_
  refine q_op (dst := some 3) rfl (fun _ ho => ok_move ho (.tmp rfl)) ?_
  refine q_op (dst := some 4) rfl (fun _ ho => ok_nil_ptr ho tu26 (.tmp rfl) (.inl ⟨rfl, rfl⟩)) ?_
  refine hr_region_end ?_
  try dsimp only [HAct.put, List.set_cons_zero, List.set_cons_succ]
  rcases ifc h with ⟨hc1, h⟩ | ⟨hc1, h⟩
  · refine q_cond_t e5 (.tmp rfl) hc1 ?_
    refine q_seq e6 ?_
    refine q_region e7 rfl ?_
    refine q_op (dst := some 2) rfl (fun _ ho => ok_assign ho (.const fun _ => .slNil none)) ?_
    refine hr_region_end ?_
    try dsimp only [HAct.put, List.set_cons_zero, List.set_cons_succ]
    cases h
    exact q_ret e8 at_.at_ rfl (res1 rfl rfl) ⟨rfl, rfl⟩
  · refine q_cond_f e5 (.tmp rfl) (bfalse hc1) ?_
    refine q_skipc e9 ?_
    refine q_seq e10 ?_
    refine q_region e11 rfl ?_
    refine q_op (dst := some 5) rfl (fun _ ho => ok_move ho (.tmp rfl)) ?_
    obtain ⟨p2, hp2, h⟩ := bindo h
    refine q_op (dst := some 6) rfl (fun _ ho => ok_nilCheck_p ho (.tmp rfl) hp2) ?_
    refine q_op (dst := some 7) rfl (fun _ ho => ok_fieldAddr_s ho fi50_0 (by decide) (.tmp rfl) rfl) ?_
    obtain ⟨p3, hp3, h⟩ := bindo h
    refine q_op (dst := some 8) rfl (fun _ ho => ok_load_s ho sc24 (.tmp rfl) rfl (ldSl_out hp3)) ?_
    try dsimp only [HAct.put, List.set_cons_zero, List.set_cons_succ]
    obtain ⟨p4, hp4, h⟩ := bindo h
    refine q_call (dst := some 9) rfl (.func _) (.cons (.tmp rfl) Evs.nil) (HInv.static slices_Clone_int_int.at_ slices_Clone_int_int.body (slices_Clone_int_int.snd  hp4)) ?_
    rintro _ _ ⟨rfl, rfl⟩
    refine q_op (dst := some 2) rfl (fun _ ho => ok_assign ho (.tmp rfl)) ?_
    refine hr_region_end ?_
    try dsimp only [HAct.put, List.set_cons_zero, List.set_cons_succ]
    cases h
    exact q_ret e12 at_.at_ rfl (res1 rfl rfl) ⟨rfl, rfl⟩
end
end set_Set_int_List
namespace slices_Clone_int_int_24
abbrev id : Nat := 24
theorem at_ : FnAt Try.prog 24 Try.f24 := ⟨Try.func24, by kernel_rfl⟩
noncomputable def c0 : Code := (Try.f24.body).getD .skip
noncomputable def c1 : Code := match c0 with | .seq x _ => x | _ => .skip
noncomputable def c2 : Code := match c0 with | .seq _ x => x | _ => .skip
noncomputable def c3 : Code := match c2 with | .seq x _ => x | _ => .skip
noncomputable def c4 : Code := match c3 with | .seq x _ => x | _ => .skip
noncomputable def c5 : Code := match c3 with | .seq _ x => x | _ => .skip
noncomputable def c6 : Code := match c5 with | .cond _ x _ => x | _ => .skip
noncomputable def c7 : Code := match c6 with | .seq x _ => x | _ => .skip
noncomputable def c8 : Code := match c6 with | .seq _ x => x | _ => .skip
noncomputable def c9 : Code := match c5 with | .cond _ _ x => x | _ => .skip
noncomputable def c10 : Code := match c2 with | .seq _ x => x | _ => .skip
noncomputable def c11 : Code := match c10 with | .seq x _ => x | _ => .skip
noncomputable def c12 : Code := match c10 with | .seq _ x => x | _ => .skip
theorem e0 : c0 = .seq c1 c2 := by kernel_rfl
noncomputable def r1 : Array Oper := match c1 with | .region _ x _ => x | _ => #[]
theorem e1 : c1 = .region 0 r1 false := by kernel_rfl
theorem e2 : c2 = .seq c3 c10 := by kernel_rfl
theorem e3 : c3 = .seq c4 c5 := by kernel_rfl
noncomputable def r4 : Array Oper := match c4 with | .region _ x _ => x | _ => #[]
theorem e4 : c4 = .region 1 r4 false := by kernel_rfl
theorem e5 : c5 = .cond (.tmp 4) c6 c9 := by kernel_rfl
theorem e6 : c6 = .seq c7 c8 := by kernel_rfl
noncomputable def r7 : Array Oper := match c7 with | .region _ x _ => x | _ => #[]
theorem e7 : c7 = .region 2 r7 false := by kernel_rfl
theorem e8 : c8 = .ret := by kernel_rfl
theorem e9 : c9 = .skip := by kernel_rfl
theorem e10 : c10 = .seq c11 c12 := by kernel_rfl
noncomputable def r11 : Array Oper := match c11 with | .region _ x _ => x | _ => #[]
theorem e11 : c11 = .region 3 r11 false := by kernel_rfl
theorem e12 : c12 = .ret := by kernel_rfl
theorem body : Try.f24.body = some c0 := by kernel_rfl
section
variable {base : Nat} {W0 : World} {β0 : Bt}
def f (x0 : Sl) (S : HS) : Option ((Sl) × HS) :=
  (if (Option.isNone (Sl.a x0)) = true then
  some (Sl.nil, S) else
  (letv (HS.lit S [] 1) fun p2 =>
  (Option.bind (HS.rows (p2.2) x0 1) fun p3 =>
  (Option.bind (HS.app (p2.2) (p2.1) p3 1) fun p4 =>
  some ((p4.1), (p4.2))))))
theorem snd {x0 : Sl} {S : HS}  {p : (Sl) × HS} (h : f x0 S = some p) : HCall Try.prog base W0 β0 24 [(Sl.hv x0)] S (fun v S1 => v = (Sl.hv p.1) ∧ S1 = p.2) := by
  unfold f at h
  refine HCall.of_run at_.at_ body ?_
  show HRun Try.prog base W0 β0 24 none [.code c0] ⟨[(Sl.hv x0), .tup [], .tup [], .tup [], .tup [], .tup [], .tup [], .tup []], []⟩ S _
  refine q_seq e0 ?_
  refine q_region e1 rfl ?_
  refine q_op (dst := some 2) rfl (fun _ ho => ok_assign ho (.const fun _ => .slNil none)) ?_
  refine hr_region_end ?_
  try dsimp only [HAct.put, List.set_cons_zero, List.set_cons_succ]
  refine q_seq e2 ?_
  refine q_seq e3 ?_
  refine q_region e4 rfl ?_
  refine q_op (dst := some 3) rfl (fun _ ho => ok_move ho (.tmp rfl)) ?_
  refine q_op (dst := some 4) rfl (fun _ ho => ok_nil_sl ho tu22 (.tmp rfl) (.inl ⟨rfl, rfl⟩)) ?_
  refine hr_region_end ?_
  try dsimp only [HAct.put, List.set_cons_zero, List.set_cons_succ]
  rcases ifc h with ⟨hc1, h⟩ | ⟨hc1, h⟩
  · refine q_cond_t e5 (.tmp rfl) hc1 ?_
    refine q_seq e6 ?_
    refine q_region e7 rfl ?_
    refine q_op (dst := some 2) rfl (fun _ ho => ok_assign ho (.const fun _ => .slNil none)) ?_
    refine hr_region_end ?_
    try dsimp only [HAct.put, List.set_cons_zero, List.set_cons_succ]
    cases h
    exact q_ret e8 at_.at_ rfl (res1 rfl rfl) ⟨rfl, rfl⟩
  · refine q_cond_f e5 (.tmp rfl) (bfalse hc1) ?_
    refine q_skipc e9 ?_
    refine q_seq e10 ?_
    refine q_region e11 rfl ?_
    obtain ⟨p2, hp2, h⟩ := leto h
    refine q_op (dst := some 5) rfl (fun _ ho => ok_buildSlice_s (xs := []) el22 ho rfl rfl (by decide) Evs.nil rfl rfl hp2) ?_
    refine q_op (dst := some 6) rfl (fun _ ho => ok_move ho (.tmp rfl)) ?_
    obtain ⟨p3, hp3, h⟩ := bindo h
    obtain ⟨p4, hp4, h⟩ := bindo h
    refine q_op (dst := some 7) rfl (fun _ ho => ok_append (s := (p2.1)) (s1 := x0) el22 ho rfl rfl ⟨_, tu22⟩ (.tmp rfl) (.tmp rfl) hp3 hp4) ?_
    refine q_op (dst := some 2) rfl (fun _ ho => ok_assign ho (.tmp rfl)) ?_
    refine hr_region_end ?_
    try dsimp only [HAct.put, List.set_cons_zero, List.set_cons_succ]
    cases h
    exact q_ret e12 at_.at_ rfl (res1 rfl rfl) ⟨rfl, rfl⟩
end
end slices_Clone_int_int_24
namespace set_Union_int_1
abbrev id : Nat := 23
theorem at_ : FnAt Try.prog 23 Try.f23 := ⟨Try.func23, by kernel_rfl⟩
noncomputable def c0 : Code := (Try.f23.body).getD .skip
noncomputable def c1 : Code := match c0 with | .seq x _ => x | _ => .skip
noncomputable def c2 : Code := match c0 with | .seq _ x => x | _ => .skip
noncomputable def c3 : Code := match c2 with | .block _ x => x | _ => .skip
noncomputable def c4 : Code := match c3 with | .loop x => x | _ => .skip
noncomputable def c5 : Code := match c4 with | .block _ x => x | _ => .skip
noncomputable def c6 : Code := match c5 with | .seq x _ => x | _ => .skip
noncomputable def c7 : Code := match c5 with | .seq _ x => x | _ => .skip
noncomputable def c8 : Code := match c7 with | .seq x _ => x | _ => .skip
noncomputable def c9 : Code := match c8 with | .seq x _ => x | _ => .skip
noncomputable def c10 : Code := match c8 with | .seq _ x => x | _ => .skip
noncomputable def c11 : Code := match c10 with | .block _ x => x | _ => .skip
noncomputable def c12 : Code := match c11 with | .loop x => x | _ => .skip
noncomputable def c13 : Code := match c12 with | .seq x _ => x | _ => .skip
noncomputable def c14 : Code := match c12 with | .seq _ x => x | _ => .skip
noncomputable def c15 : Code := match c14 with | .seq x _ => x | _ => .skip
noncomputable def c16 : Code := match c15 with | .cond _ x _ => x | _ => .skip
noncomputable def c17 : Code := match c15 with | .cond _ _ x => x | _ => .skip
noncomputable def c18 : Code := match c14 with | .seq _ x => x | _ => .skip
noncomputable def c19 : Code := match c18 with | .seq x _ => x | _ => .skip
noncomputable def c20 : Code := match c19 with | .block _ x => x | _ => .skip
noncomputable def c21 : Code := match c20 with | .seq x _ => x | _ => .skip
noncomputable def c22 : Code := match c20 with | .seq _ x => x | _ => .skip
noncomputable def c23 : Code := match c22 with | .seq x _ => x | _ => .skip
noncomputable def c24 : Code := match c22 with | .seq _ x => x | _ => .skip
noncomputable def c25 : Code := match c24 with | .cond _ x _ => x | _ => .skip
noncomputable def c26 : Code := match c24 with | .cond _ _ x => x | _ => .skip
noncomputable def c27 : Code := match c18 with | .seq _ x => x | _ => .skip
noncomputable def c28 : Code := match c7 with | .seq _ x => x | _ => .skip
noncomputable def c29 : Code := match c28 with | .seq x _ => x | _ => .skip
noncomputable def c30 : Code := match c29 with | .seq x _ => x | _ => .skip
noncomputable def c31 : Code := match c29 with | .seq _ x => x | _ => .skip
noncomputable def c32 : Code := match c31 with | .cond _ x _ => x | _ => .skip
noncomputable def c33 : Code := match c31 with | .cond _ _ x => x | _ => .skip
noncomputable def c34 : Code := match c28 with | .seq _ x => x | _ => .skip
noncomputable def c35 : Code := match c34 with | .seq x _ => x | _ => .skip
noncomputable def c36 : Code := match c34 with | .seq _ x => x | _ => .skip
noncomputable def c37 : Code := match c36 with | .seq x _ => x | _ => .skip
noncomputable def c38 : Code := match c37 with | .seq x _ => x | _ => .skip
noncomputable def c39 : Code := match c37 with | .seq _ x => x | _ => .skip
noncomputable def c40 : Code := match c39 with | .block _ x => x | _ => .skip
noncomputable def c41 : Code := match c40 with | .loop x => x | _ => .skip
noncomputable def c42 : Code := match c41 with | .seq x _ => x | _ => .skip
noncomputable def c43 : Code := match c41 with | .seq _ x => x | _ => .skip
noncomputable def c44 : Code := match c43 with | .seq x _ => x | _ => .skip
noncomputable def c45 : Code := match c44 with | .cond _ x _ => x | _ => .skip
noncomputable def c46 : Code := match c44 with | .cond _ _ x => x | _ => .skip
noncomputable def c47 : Code := match c43 with | .seq _ x => x | _ => .skip
noncomputable def c48 : Code := match c47 with | .seq x _ => x | _ => .skip
noncomputable def c49 : Code := match c48 with | .block _ x => x | _ => .skip
noncomputable def c50 : Code := match c49 with | .seq x _ => x | _ => .skip
noncomputable def c51 : Code := match c49 with | .seq _ x => x | _ => .skip
noncomputable def c52 : Code := match c51 with | .seq x _ => x | _ => .skip
noncomputable def c53 : Code := match c51 with | .seq _ x => x | _ => .skip
noncomputable def c54 : Code := match c53 with | .cond _ x _ => x | _ => .skip
noncomputable def c55 : Code := match c53 with | .cond _ _ x => x | _ => .skip
noncomputable def c56 : Code := match c47 with | .seq _ x => x | _ => .skip
noncomputable def c57 : Code := match c36 with | .seq _ x => x | _ => .skip
noncomputable def c58 : Code := match c57 with | .seq x _ => x | _ => .skip
noncomputable def c59 : Code := match c57 with | .seq _ x => x | _ => .skip
noncomputable def c60 : Code := match c59 with | .cond _ x _ => x | _ => .skip
noncomputable def c61 : Code := match c59 with | .cond _ _ x => x | _ => .skip
theorem e0 : c0 = .seq c1 c2 := by kernel_rfl
noncomputable def r1 : Array Oper := match c1 with | .region _ x _ => x | _ => #[]
theorem e1 : c1 = .region 0 r1 false := by kernel_rfl
theorem e2 : c2 = .block 0 c3 := by kernel_rfl
theorem e3 : c3 = .loop c4 := by kernel_rfl
theorem e4 : c4 = .block 1 c5 := by kernel_rfl
theorem e5 : c5 = .seq c6 c7 := by kernel_rfl
noncomputable def r6 : Array Oper := match c6 with | .region _ x _ => x | _ => #[]
theorem e6 : c6 = .region 1 r6 false := by kernel_rfl
theorem e7 : c7 = .seq c8 c28 := by kernel_rfl
theorem e8 : c8 = .seq c9 c10 := by kernel_rfl
noncomputable def r9 : Array Oper := match c9 with | .region _ x _ => x | _ => #[]
theorem e9 : c9 = .region 2 r9 false := by kernel_rfl
theorem e10 : c10 = .block 2 c11 := by kernel_rfl
theorem e11 : c11 = .loop c12 := by kernel_rfl
theorem e12 : c12 = .seq c13 c14 := by kernel_rfl
noncomputable def r13 : Array Oper := match c13 with | .region _ x _ => x | _ => #[]
theorem e13 : c13 = .region 3 r13 false := by kernel_rfl
theorem e14 : c14 = .seq c15 c18 := by kernel_rfl
theorem e15 : c15 = .cond (.tmp 15) c16 c17 := by kernel_rfl
theorem e16 : c16 = .skip := by kernel_rfl
theorem e17 : c17 = .exit 2 := by kernel_rfl
theorem e18 : c18 = .seq c19 c27 := by kernel_rfl
theorem e19 : c19 = .block 3 c20 := by kernel_rfl
theorem e20 : c20 = .seq c21 c22 := by kernel_rfl
noncomputable def r21 : Array Oper := match c21 with | .region _ x _ => x | _ => #[]
theorem e21 : c21 = .region 4 r21 false := by kernel_rfl
theorem e22 : c22 = .seq c23 c24 := by kernel_rfl
noncomputable def r23 : Array Oper := match c23 with | .region _ x _ => x | _ => #[]
theorem e23 : c23 = .region 5 r23 true := by kernel_rfl
theorem e24 : c24 = .cond (.tmp 37) c25 c26 := by kernel_rfl
noncomputable def r25 : Array Oper := match c25 with | .region _ x _ => x | _ => #[]
theorem e25 : c25 = .region 6 r25 false := by kernel_rfl
theorem e26 : c26 = .skip := by kernel_rfl
noncomputable def r27 : Array Oper := match c27 with | .region _ x _ => x | _ => #[]
theorem e27 : c27 = .region 7 r27 false := by kernel_rfl
theorem e28 : c28 = .seq c29 c34 := by kernel_rfl
theorem e29 : c29 = .seq c30 c31 := by kernel_rfl
noncomputable def r30 : Array Oper := match c30 with | .region _ x _ => x | _ => #[]
theorem e30 : c30 = .region 8 r30 false := by kernel_rfl
theorem e31 : c31 = .cond (.tmp 41) c32 c33 := by kernel_rfl
theorem e32 : c32 = .ret := by kernel_rfl
theorem e33 : c33 = .skip := by kernel_rfl
theorem e34 : c34 = .seq c35 c36 := by kernel_rfl
noncomputable def r35 : Array Oper := match c35 with | .region _ x _ => x | _ => #[]
theorem e35 : c35 = .region 9 r35 false := by kernel_rfl
theorem e36 : c36 = .seq c37 c57 := by kernel_rfl
theorem e37 : c37 = .seq c38 c39 := by kernel_rfl
noncomputable def r38 : Array Oper := match c38 with | .region _ x _ => x | _ => #[]
theorem e38 : c38 = .region 10 r38 false := by kernel_rfl
theorem e39 : c39 = .block 4 c40 := by kernel_rfl
theorem e40 : c40 = .loop c41 := by kernel_rfl
theorem e41 : c41 = .seq c42 c43 := by kernel_rfl
noncomputable def r42 : Array Oper := match c42 with | .region _ x _ => x | _ => #[]
theorem e42 : c42 = .region 11 r42 false := by kernel_rfl
theorem e43 : c43 = .seq c44 c47 := by kernel_rfl
theorem e44 : c44 = .cond (.tmp 51) c45 c46 := by kernel_rfl
theorem e45 : c45 = .skip := by kernel_rfl
theorem e46 : c46 = .exit 4 := by kernel_rfl
theorem e47 : c47 = .seq c48 c56 := by kernel_rfl
theorem e48 : c48 = .block 5 c49 := by kernel_rfl
theorem e49 : c49 = .seq c50 c51 := by kernel_rfl
noncomputable def r50 : Array Oper := match c50 with | .region _ x _ => x | _ => #[]
theorem e50 : c50 = .region 12 r50 false := by kernel_rfl
theorem e51 : c51 = .seq c52 c53 := by kernel_rfl
noncomputable def r52 : Array Oper := match c52 with | .region _ x _ => x | _ => #[]
theorem e52 : c52 = .region 13 r52 false := by kernel_rfl
theorem e53 : c53 = .cond (.tmp 64) c54 c55 := by kernel_rfl
noncomputable def r54 : Array Oper := match c54 with | .region _ x _ => x | _ => #[]
theorem e54 : c54 = .region 14 r54 false := by kernel_rfl
theorem e55 : c55 = .skip := by kernel_rfl
noncomputable def r56 : Array Oper := match c56 with | .region _ x _ => x | _ => #[]
theorem e56 : c56 = .region 15 r56 false := by kernel_rfl
theorem e57 : c57 = .seq c58 c59 := by kernel_rfl
noncomputable def r58 : Array Oper := match c58 with | .region _ x _ => x | _ => #[]
theorem e58 : c58 = .region 16 r58 false := by kernel_rfl
theorem e59 : c59 = .cond (.tmp 74) c60 c61 := by kernel_rfl
theorem e60 : c60 = .ret := by kernel_rfl
theorem e61 : c61 = .skip := by kernel_rfl
theorem body : Try.f23.body = some c0 := by kernel_rfl
section
variable {base : Nat} {W0 : World} {β0 : Bt}
def J3 (D : Dp) (H : Hd) (k : Nat) (rec0 : HV → Sl → Int → Sl → Int → Int → HS → Option ((Unit) × HS)) (rec1 : HV → Sl → HS → Option ((Unit) × HS)) (y0 : HV) (y3 : Sl) (y4 : Int) (y12 : Sl) (y13 : Int) (y14 : Int) (S : HS) : Option ((Unit) × HS) :=
  rec0 y0 y3 y4 y12 y13 (w64 (y14 + 1)) S
theorem J3_snd {D : Dp} {H : Hd} {k : Nat} {rec0 : HV → Sl → Int → Sl → Int → Int → HS → Option ((Unit) × HS)} {rec1 : HV → Sl → HS → Option ((Unit) × HS)} (hD : DSound Try.prog base W0 D) (hH : HSound Try.prog base W0 β0 H) (hrec0 : ∀ ⦃y0 : HV⦄ ⦃y3 : Sl⦄ ⦃y4 : Int⦄ ⦃y12 : Sl⦄ ⦃y13 : Int⦄ ⦃y14 : Int⦄ ⦃S : HS⦄ ⦃p : (Unit) × HS⦄ ⦃g1 g2 g5 g6 g7 g8 g9 g10 g11 g15 g16 g17 g18 g19 g20 g21 g22 g23 g24 g25 g26 g27 g28 g29 g30 g31 g32 g33 g34 g35 g36 g37 g38 g39 g40 g41 g42 g43 g44 g45 g46 g47 g48 g49 g50 g51 g52 g53 g54 g55 g56 g57 g58 g59 g60 g61 g62 g63 g64 g65 g66 g67 g68 g69 g70 g71 g72 g73 g74 : HV⦄, rec0 y0 y3 y4 y12 y13 y14 S = some p → HRun Try.prog base W0 β0 23 none [.inLoop c12, .inBlock 2, .code c28, .inBlock 1, .inLoop c4, .inBlock 0] ⟨[y0, g1, g2, (Sl.hv y3), (.int .i64 y4), g5, g6, g7, g8, g9, g10, g11, (Sl.hv y12), (.int .i64 y13), (.int .i64 y14), g15, g16, g17, g18, g19, g20, g21, g22, g23, g24, g25, g26, g27, g28, g29, g30, g31, g32, g33, g34, g35, g36, g37, g38, g39, g40, g41, g42, g43, g44, g45, g46, g47, g48, g49, g50, g51, g52, g53, g54, g55, g56, g57, g58, g59, g60, g61, g62, g63, g64, g65, g66, g67, g68, g69, g70, g71, g72, g73, g74], []⟩ S (fun v S1 => v = (.tup []) ∧ S1 = p.2)) (hrec1 : ∀ ⦃y0 : HV⦄ ⦃y3 : Sl⦄ ⦃S : HS⦄ ⦃p : (Unit) × HS⦄ ⦃g1 g2 g4 g5 g6 g7 g8 g9 g10 g11 g12 g13 g14 g15 g16 g17 g18 g19 g20 g21 g22 g23 g24 g25 g26 g27 g28 g29 g30 g31 g32 g33 g34 g35 g36 g37 g38 g39 g40 g41 g42 g43 g44 g45 g46 g47 g48 g49 g50 g51 g52 g53 g54 g55 g56 g57 g58 g59 g60 g61 g62 g63 g64 g65 g66 g67 g68 g69 g70 g71 g72 g73 g74 : HV⦄, rec1 y0 y3 S = some p → HRun Try.prog base W0 β0 23 none [.inLoop c4, .inBlock 0] ⟨[y0, g1, g2, (Sl.hv y3), g4, g5, g6, g7, g8, g9, g10, g11, g12, g13, g14, g15, g16, g17, g18, g19, g20, g21, g22, g23, g24, g25, g26, g27, g28, g29, g30, g31, g32, g33, g34, g35, g36, g37, g38, g39, g40, g41, g42, g43, g44, g45, g46, g47, g48, g49, g50, g51, g52, g53, g54, g55, g56, g57, g58, g59, g60, g61, g62, g63, g64, g65, g66, g67, g68, g69, g70, g71, g72, g73, g74], []⟩ S (fun v S1 => v = (.tup []) ∧ S1 = p.2)) {y0 : HV} {y3 : Sl} {y4 : Int} {y12 : Sl} {y13 : Int} {y14 : Int} {S : HS} {p : (Unit) × HS} {g1 g2 g5 g6 g7 g8 g9 g10 g11 g15 g16 g17 g18 g19 g20 g21 g22 g23 g24 g25 g26 g27 g28 g29 g30 g31 g32 g33 g34 g35 g36 g37 g38 g39 g40 g41 g42 g43 g44 g45 g46 g47 g48 g49 g50 g51 g52 g53 g54 g55 g56 g57 g58 g59 g60 g61 g62 g63 g64 g65 g66 g67 g68 g69 g70 g71 g72 g73 g74 : HV} (h : J3 D H k rec0 rec1 y0 y3 y4 y12 y13 y14 S = some p) : HRun Try.prog base W0 β0 23 none [.code c27, .inLoop c12, .inBlock 2, .code c28, .inBlock 1, .inLoop c4, .inBlock 0] ⟨[y0, g1, g2, (Sl.hv y3), (.int .i64 y4), g5, g6, g7, g8, g9, g10, g11, (Sl.hv y12), (.int .i64 y13), (.int .i64 y14), g15, g16, g17, g18, g19, g20, g21, g22, g23, g24, g25, g26, g27, g28, g29, g30, g31, g32, g33, g34, g35, g36, g37, g38, g39, g40, g41, g42, g43, g44, g45, g46, g47, g48, g49, g50, g51, g52, g53, g54, g55, g56, g57, g58, g59, g60, g61, g62, g63, g64, g65, g66, g67, g68, g69, g70, g71, g72, g73, g74], []⟩ S (fun v S1 => v = (.tup []) ∧ S1 = p.2) := by
  unfold J3 at h
  refine q_region e27 rfl ?_
  refine q_op (dst := some 39) rfl (fun _ ho => ok_ibin ho (.tmp rfl) (.int _ _) rfl) ?_
  refine q_op (dst := some 14) rfl (fun _ ho => ok_move ho (.tmp rfl)) ?_
  refine hr_region_end ?_
  try dsimp only [HAct.put, List.set_cons_zero, List.set_cons_succ]
  try dsimp only [HAct.put, List.set_cons_zero, List.set_cons_succ]
  exact hrec0 h
def J2 (D : Dp) (H : Hd) (k : Nat) (rec0 : HV → Sl → Int → Sl → Int → Int → HS → Option ((Unit) × HS)) (rec1 : HV → Sl → HS → Option ((Unit) × HS)) (y0 : HV) (y3 : Sl) (y4 : Int) (y5 : Int) (y12 : Sl) (y13 : Int) (y14 : Int) (y37 : Bool) (S : HS) : Option ((Unit) × HS) :=
  (if y37 = true then
  J3 D H k rec0 rec1 y0 y3 y5 y12 y13 y14 S else
  J3 D H k rec0 rec1 y0 y3 y4 y12 y13 y14 S)
theorem J2_snd {D : Dp} {H : Hd} {k : Nat} {rec0 : HV → Sl → Int → Sl → Int → Int → HS → Option ((Unit) × HS)} {rec1 : HV → Sl → HS → Option ((Unit) × HS)} (hD : DSound Try.prog base W0 D) (hH : HSound Try.prog base W0 β0 H) (hrec0 : ∀ ⦃y0 : HV⦄ ⦃y3 : Sl⦄ ⦃y4 : Int⦄ ⦃y12 : Sl⦄ ⦃y13 : Int⦄ ⦃y14 : Int⦄ ⦃S : HS⦄ ⦃p : (Unit) × HS⦄ ⦃g1 g2 g5 g6 g7 g8 g9 g10 g11 g15 g16 g17 g18 g19 g20 g21 g22 g23 g24 g25 g26 g27 g28 g29 g30 g31 g32 g33 g34 g35 g36 g37 g38 g39 g40 g41 g42 g43 g44 g45 g46 g47 g48 g49 g50 g51 g52 g53 g54 g55 g56 g57 g58 g59 g60 g61 g62 g63 g64 g65 g66 g67 g68 g69 g70 g71 g72 g73 g74 : HV⦄, rec0 y0 y3 y4 y12 y13 y14 S = some p → HRun Try.prog base W0 β0 23 none [.inLoop c12, .inBlock 2, .code c28, .inBlock 1, .inLoop c4, .inBlock 0] ⟨[y0, g1, g2, (Sl.hv y3), (.int .i64 y4), g5, g6, g7, g8, g9, g10, g11, (Sl.hv y12), (.int .i64 y13), (.int .i64 y14), g15, g16, g17, g18, g19, g20, g21, g22, g23, g24, g25, g26, g27, g28, g29, g30, g31, g32, g33, g34, g35, g36, g37, g38, g39, g40, g41, g42, g43, g44, g45, g46, g47, g48, g49, g50, g51, g52, g53, g54, g55, g56, g57, g58, g59, g60, g61, g62, g63, g64, g65, g66, g67, g68, g69, g70, g71, g72, g73, g74], []⟩ S (fun v S1 => v = (.tup []) ∧ S1 = p.2)) (hrec1 : ∀ ⦃y0 : HV⦄ ⦃y3 : Sl⦄ ⦃S : HS⦄ ⦃p : (Unit) × HS⦄ ⦃g1 g2 g4 g5 g6 g7 g8 g9 g10 g11 g12 g13 g14 g15 g16 g17 g18 g19 g20 g21 g22 g23 g24 g25 g26 g27 g28 g29 g30 g31 g32 g33 g34 g35 g36 g37 g38 g39 g40 g41 g42 g43 g44 g45 g46 g47 g48 g49 g50 g51 g52 g53 g54 g55 g56 g57 g58 g59 g60 g61 g62 g63 g64 g65 g66 g67 g68 g69 g70 g71 g72 g73 g74 : HV⦄, rec1 y0 y3 S = some p → HRun Try.prog base W0 β0 23 none [.inLoop c4, .inBlock 0] ⟨[y0, g1, g2, (Sl.hv y3), g4, g5, g6, g7, g8, g9, g10, g11, g12, g13, g14, g15, g16, g17, g18, g19, g20, g21, g22, g23, g24, g25, g26, g27, g28, g29, g30, g31, g32, g33, g34, g35, g36, g37, g38, g39, g40, g41, g42, g43, g44, g45, g46, g47, g48, g49, g50, g51, g52, g53, g54, g55, g56, g57, g58, g59, g60, g61, g62, g63, g64, g65, g66, g67, g68, g69, g70, g71, g72, g73, g74], []⟩ S (fun v S1 => v = (.tup []) ∧ S1 = p.2)) {y0 : HV} {y3 : Sl} {y4 : Int} {y5 : Int} {y12 : Sl} {y13 : Int} {y14 : Int} {y37 : Bool} {S : HS} {p : (Unit) × HS} {g1 g2 g6 g7 g8 g9 g10 g11 g15 g16 g17 g18 g19 g20 g21 g22 g23 g24 g25 g26 g27 g28 g29 g30 g31 g32 g33 g34 g35 g36 g38 g39 g40 g41 g42 g43 g44 g45 g46 g47 g48 g49 g50 g51 g52 g53 g54 g55 g56 g57 g58 g59 g60 g61 g62 g63 g64 g65 g66 g67 g68 g69 g70 g71 g72 g73 g74 : HV} (h : J2 D H k rec0 rec1 y0 y3 y4 y5 y12 y13 y14 y37 S = some p) : HRun Try.prog base W0 β0 23 none [.code c24, .inBlock 3, .code c27, .inLoop c12, .inBlock 2, .code c28, .inBlock 1, .inLoop c4, .inBlock 0] ⟨[y0, g1, g2, (Sl.hv y3), (.int .i64 y4), (.int .i64 y5), g6, g7, g8, g9, g10, g11, (Sl.hv y12), (.int .i64 y13), (.int .i64 y14), g15, g16, g17, g18, g19, g20, g21, g22, g23, g24, g25, g26, g27, g28, g29, g30, g31, g32, g33, g34, g35, g36, (.bool y37), g38, g39, g40, g41, g42, g43, g44, g45, g46, g47, g48, g49, g50, g51, g52, g53, g54, g55, g56, g57, g58, g59, g60, g61, g62, g63, g64, g65, g66, g67, g68, g69, g70, g71, g72, g73, g74], []⟩ S (fun v S1 => v = (.tup []) ∧ S1 = p.2) := by
  unfold J2 at h
  rcases ifc h with ⟨hc9, h⟩ | ⟨hc9, h⟩
  · refine q_cond_t e24 (.tmp rfl) hc9 ?_
    refine q_region e25 rfl ?_
    refine q_op (dst := some 38) rfl (fun _ ho => ok_move ho (.tmp rfl)) ?_
    refine q_op (dst := some 4) rfl (fun _ ho => ok_assign ho (.tmp rfl)) ?_
    refine hr_region_end ?_
    try dsimp only [HAct.put, List.set_cons_zero, List.set_cons_succ]
    refine hr_inBlock ?_
    try dsimp only [HAct.put, List.set_cons_zero, List.set_cons_succ]
    exact J3_snd hD hH hrec0 hrec1 h
  · refine q_cond_f e24 (.tmp rfl) (bfalse hc9) ?_
    refine q_skipc e26 ?_
    refine hr_inBlock ?_
    try dsimp only [HAct.put, List.set_cons_zero, List.set_cons_succ]
    exact J3_snd hD hH hrec0 hrec1 h
def J6 (D : Dp) (H : Hd) (k : Nat) (rec0 : HV → Sl → Int → Sl → Int → Int → HS → Option ((Unit) × HS)) (rec1 : HV → Sl → HS → Option ((Unit) × HS)) (y0 : HV) (y3 : Sl) (y7 : Int) (y48 : Sl) (y49 : Int) (y50 : Int) (S : HS) : Option ((Unit) × HS) :=
  rec0 y0 y3 y7 y48 y49 (w64 (y50 + 1)) S
theorem J6_snd {D : Dp} {H : Hd} {k : Nat} {rec0 : HV → Sl → Int → Sl → Int → Int → HS → Option ((Unit) × HS)} {rec1 : HV → Sl → HS → Option ((Unit) × HS)} (hD : DSound Try.prog base W0 D) (hH : HSound Try.prog base W0 β0 H) (hrec0 : ∀ ⦃y0 : HV⦄ ⦃y3 : Sl⦄ ⦃y7 : Int⦄ ⦃y48 : Sl⦄ ⦃y49 : Int⦄ ⦃y50 : Int⦄ ⦃S : HS⦄ ⦃p : (Unit) × HS⦄ ⦃g1 g2 g4 g5 g6 g8 g9 g10 g11 g12 g13 g14 g15 g16 g17 g18 g19 g20 g21 g22 g23 g24 g25 g26 g27 g28 g29 g30 g31 g32 g33 g34 g35 g36 g37 g38 g39 g40 g41 g42 g43 g44 g45 g46 g47 g51 g52 g53 g54 g55 g56 g57 g58 g59 g60 g61 g62 g63 g64 g65 g66 g67 g68 g69 g70 g71 g72 g73 g74 : HV⦄, rec0 y0 y3 y7 y48 y49 y50 S = some p → HRun Try.prog base W0 β0 23 none [.inLoop c41, .inBlock 4, .code c57, .inBlock 1, .inLoop c4, .inBlock 0] ⟨[y0, g1, g2, (Sl.hv y3), g4, g5, g6, (.int .i64 y7), g8, g9, g10, g11, g12, g13, g14, g15, g16, g17, g18, g19, g20, g21, g22, g23, g24, g25, g26, g27, g28, g29, g30, g31, g32, g33, g34, g35, g36, g37, g38, g39, g40, g41, g42, g43, g44, g45, g46, g47, (Sl.hv y48), (.int .i64 y49), (.int .i64 y50), g51, g52, g53, g54, g55, g56, g57, g58, g59, g60, g61, g62, g63, g64, g65, g66, g67, g68, g69, g70, g71, g72, g73, g74], []⟩ S (fun v S1 => v = (.tup []) ∧ S1 = p.2)) (hrec1 : ∀ ⦃y0 : HV⦄ ⦃y3 : Sl⦄ ⦃S : HS⦄ ⦃p : (Unit) × HS⦄ ⦃g1 g2 g4 g5 g6 g7 g8 g9 g10 g11 g12 g13 g14 g15 g16 g17 g18 g19 g20 g21 g22 g23 g24 g25 g26 g27 g28 g29 g30 g31 g32 g33 g34 g35 g36 g37 g38 g39 g40 g41 g42 g43 g44 g45 g46 g47 g48 g49 g50 g51 g52 g53 g54 g55 g56 g57 g58 g59 g60 g61 g62 g63 g64 g65 g66 g67 g68 g69 g70 g71 g72 g73 g74 : HV⦄, rec1 y0 y3 S = some p → HRun Try.prog base W0 β0 23 none [.inLoop c4, .inBlock 0] ⟨[y0, g1, g2, (Sl.hv y3), g4, g5, g6, g7, g8, g9, g10, g11, g12, g13, g14, g15, g16, g17, g18, g19, g20, g21, g22, g23, g24, g25, g26, g27, g28, g29, g30, g31, g32, g33, g34, g35, g36, g37, g38, g39, g40, g41, g42, g43, g44, g45, g46, g47, g48, g49, g50, g51, g52, g53, g54, g55, g56, g57, g58, g59, g60, g61, g62, g63, g64, g65, g66, g67, g68, g69, g70, g71, g72, g73, g74], []⟩ S (fun v S1 => v = (.tup []) ∧ S1 = p.2)) {y0 : HV} {y3 : Sl} {y7 : Int} {y48 : Sl} {y49 : Int} {y50 : Int} {S : HS} {p : (Unit) × HS} {g1 g2 g4 g5 g6 g8 g9 g10 g11 g12 g13 g14 g15 g16 g17 g18 g19 g20 g21 g22 g23 g24 g25 g26 g27 g28 g29 g30 g31 g32 g33 g34 g35 g36 g37 g38 g39 g40 g41 g42 g43 g44 g45 g46 g47 g51 g52 g53 g54 g55 g56 g57 g58 g59 g60 g61 g62 g63 g64 g65 g66 g67 g68 g69 g70 g71 g72 g73 g74 : HV} (h : J6 D H k rec0 rec1 y0 y3 y7 y48 y49 y50 S = some p) : HRun Try.prog base W0 β0 23 none [.code c56, .inLoop c41, .inBlock 4, .code c57, .inBlock 1, .inLoop c4, .inBlock 0] ⟨[y0, g1, g2, (Sl.hv y3), g4, g5, g6, (.int .i64 y7), g8, g9, g10, g11, g12, g13, g14, g15, g16, g17, g18, g19, g20, g21, g22, g23, g24, g25, g26, g27, g28, g29, g30, g31, g32, g33, g34, g35, g36, g37, g38, g39, g40, g41, g42, g43, g44, g45, g46, g47, (Sl.hv y48), (.int .i64 y49), (.int .i64 y50), g51, g52, g53, g54, g55, g56, g57, g58, g59, g60, g61, g62, g63, g64, g65, g66, g67, g68, g69, g70, g71, g72, g73, g74], []⟩ S (fun v S1 => v = (.tup []) ∧ S1 = p.2) := by
  unfold J6 at h
  refine q_region e56 rfl ?_
  refine q_op (dst := some 70) rfl (fun _ ho => ok_ibin ho (.tmp rfl) (.int _ _) rfl) ?_
  refine q_op (dst := some 50) rfl (fun _ ho => ok_move ho (.tmp rfl)) ?_
  refine hr_region_end ?_
  try dsimp only [HAct.put, List.set_cons_zero, List.set_cons_succ]
  try dsimp only [HAct.put, List.set_cons_zero, List.set_cons_succ]
  exact hrec0 h
def J5 (D : Dp) (H : Hd) (k : Nat) (rec0 : HV → Sl → Int → Sl → Int → Int → HS → Option ((Unit) × HS)) (rec1 : HV → Sl → HS → Option ((Unit) × HS)) (y0 : HV) (y3 : Sl) (y7 : Int) (y8 : Int) (y9 : Sl) (y48 : Sl) (y49 : Int) (y50 : Int) (y64 : Bool) (S : HS) : Option ((Unit) × HS) :=
  (if y64 = true then
  (Option.bind (HS.cut S y9 1 (Sl.len y9 : Int) 1) fun p28 =>
  (Option.bind (HS.idx S y3 y8 1) fun p29 =>
  (Option.bind (HS.sets S p29 [(Sl.hv p28)]) fun p30 =>
  J6 D H k rec0 rec1 y0 y3 y7 y48 y49 y50 p30))) else
  J6 D H k rec0 rec1 y0 y3 y7 y48 y49 y50 S)
theorem J5_snd {D : Dp} {H : Hd} {k : Nat} {rec0 : HV → Sl → Int → Sl → Int → Int → HS → Option ((Unit) × HS)} {rec1 : HV → Sl → HS → Option ((Unit) × HS)} (hD : DSound Try.prog base W0 D) (hH : HSound Try.prog base W0 β0 H) (hrec0 : ∀ ⦃y0 : HV⦄ ⦃y3 : Sl⦄ ⦃y7 : Int⦄ ⦃y48 : Sl⦄ ⦃y49 : Int⦄ ⦃y50 : Int⦄ ⦃S : HS⦄ ⦃p : (Unit) × HS⦄ ⦃g1 g2 g4 g5 g6 g8 g9 g10 g11 g12 g13 g14 g15 g16 g17 g18 g19 g20 g21 g22 g23 g24 g25 g26 g27 g28 g29 g30 g31 g32 g33 g34 g35 g36 g37 g38 g39 g40 g41 g42 g43 g44 g45 g46 g47 g51 g52 g53 g54 g55 g56 g57 g58 g59 g60 g61 g62 g63 g64 g65 g66 g67 g68 g69 g70 g71 g72 g73 g74 : HV⦄, rec0 y0 y3 y7 y48 y49 y50 S = some p → HRun Try.prog base W0 β0 23 none [.inLoop c41, .inBlock 4, .code c57, .inBlock 1, .inLoop c4, .inBlock 0] ⟨[y0, g1, g2, (Sl.hv y3), g4, g5, g6, (.int .i64 y7), g8, g9, g10, g11, g12, g13, g14, g15, g16, g17, g18, g19, g20, g21, g22, g23, g24, g25, g26, g27, g28, g29, g30, g31, g32, g33, g34, g35, g36, g37, g38, g39, g40, g41, g42, g43, g44, g45, g46, g47, (Sl.hv y48), (.int .i64 y49), (.int .i64 y50), g51, g52, g53, g54, g55, g56, g57, g58, g59, g60, g61, g62, g63, g64, g65, g66, g67, g68, g69, g70, g71, g72, g73, g74], []⟩ S (fun v S1 => v = (.tup []) ∧ S1 = p.2)) (hrec1 : ∀ ⦃y0 : HV⦄ ⦃y3 : Sl⦄ ⦃S : HS⦄ ⦃p : (Unit) × HS⦄ ⦃g1 g2 g4 g5 g6 g7 g8 g9 g10 g11 g12 g13 g14 g15 g16 g17 g18 g19 g20 g21 g22 g23 g24 g25 g26 g27 g28 g29 g30 g31 g32 g33 g34 g35 g36 g37 g38 g39 g40 g41 g42 g43 g44 g45 g46 g47 g48 g49 g50 g51 g52 g53 g54 g55 g56 g57 g58 g59 g60 g61 g62 g63 g64 g65 g66 g67 g68 g69 g70 g71 g72 g73 g74 : HV⦄, rec1 y0 y3 S = some p → HRun Try.prog base W0 β0 23 none [.inLoop c4, .inBlock 0] ⟨[y0, g1, g2, (Sl.hv y3), g4, g5, g6, g7, g8, g9, g10, g11, g12, g13, g14, g15, g16, g17, g18, g19, g20, g21, g22, g23, g24, g25, g26, g27, g28, g29, g30, g31, g32, g33, g34, g35, g36, g37, g38, g39, g40, g41, g42, g43, g44, g45, g46, g47, g48, g49, g50, g51, g52, g53, g54, g55, g56, g57, g58, g59, g60, g61, g62, g63, g64, g65, g66, g67, g68, g69, g70, g71, g72, g73, g74], []⟩ S (fun v S1 => v = (.tup []) ∧ S1 = p.2)) {y0 : HV} {y3 : Sl} {y7 : Int} {y8 : Int} {y9 : Sl} {y48 : Sl} {y49 : Int} {y50 : Int} {y64 : Bool} {S : HS} {p : (Unit) × HS} {g1 g2 g4 g5 g6 g10 g11 g12 g13 g14 g15 g16 g17 g18 g19 g20 g21 g22 g23 g24 g25 g26 g27 g28 g29 g30 g31 g32 g33 g34 g35 g36 g37 g38 g39 g40 g41 g42 g43 g44 g45 g46 g47 g51 g52 g53 g54 g55 g56 g57 g58 g59 g60 g61 g62 g63 g65 g66 g67 g68 g69 g70 g71 g72 g73 g74 : HV} (h : J5 D H k rec0 rec1 y0 y3 y7 y8 y9 y48 y49 y50 y64 S = some p) : HRun Try.prog base W0 β0 23 none [.code c53, .inBlock 5, .code c56, .inLoop c41, .inBlock 4, .code c57, .inBlock 1, .inLoop c4, .inBlock 0] ⟨[y0, g1, g2, (Sl.hv y3), g4, g5, g6, (.int .i64 y7), (.int .i64 y8), (Sl.hv y9), g10, g11, g12, g13, g14, g15, g16, g17, g18, g19, g20, g21, g22, g23, g24, g25, g26, g27, g28, g29, g30, g31, g32, g33, g34, g35, g36, g37, g38, g39, g40, g41, g42, g43, g44, g45, g46, g47, (Sl.hv y48), (.int .i64 y49), (.int .i64 y50), g51, g52, g53, g54, g55, g56, g57, g58, g59, g60, g61, g62, g63, (.bool y64), g65, g66, g67, g68, g69, g70, g71, g72, g73, g74], []⟩ S (fun v S1 => v = (.tup []) ∧ S1 = p.2) := by
  unfold J5 at h
  rcases ifc h with ⟨hc27, h⟩ | ⟨hc27, h⟩
  · refine q_cond_t e53 (.tmp rfl) hc27 ?_
    refine q_region e54 rfl ?_
    refine q_op (dst := some 65) rfl (fun _ ho => ok_move ho (.tmp rfl)) ?_
    refine q_op (dst := some 66) rfl (fun _ ho => ok_move ho (.tmp rfl)) ?_
    refine q_op (dst := some 67) rfl (fun _ ho => ok_move ho (.tmp rfl)) ?_
    obtain ⟨p28, hp28, h⟩ := bindo h
    refine q_op (dst := some 68) rfl (fun _ ho => ok_slice (kl := .i64) (kh := .i64) (s := y9) (l := 1) (h := (Sl.len y9 : Int)) ho tu24 si3 (.tmp rfl) (.inr ⟨_, rfl, (.int _ _)⟩) (.inl ⟨rfl, rfl⟩) hp28) ?_
    try dsimp only [HAct.put, List.set_cons_zero, List.set_cons_succ]
    obtain ⟨p29, hp29, h⟩ := bindo h
    refine q_op (dst := some 69) rfl (fun _ ho => ok_indexAddr (s := y3) ho tu22 sz24 (.tmp rfl) (.tmp rfl) hp29) ?_
    obtain ⟨p30, hp30, h⟩ := bindo h
    refine q_op (dst := none) rfl (fun _ ho => ok_store_s (v := (Sl.hv p28)) ho sz24 (.tmp rfl) rfl (.tmp rfl) rfl hp30) ?_
    refine hr_region_end ?_
    try dsimp only [HAct.put, List.set_cons_zero, List.set_cons_succ]
    refine hr_inBlock ?_
    try dsimp only [HAct.put, List.set_cons_zero, List.set_cons_succ]
    exact J6_snd hD hH hrec0 hrec1 h
  · refine q_cond_f e53 (.tmp rfl) (bfalse hc27) ?_
    refine q_skipc e55 ?_
    refine hr_inBlock ?_
    try dsimp only [HAct.put, List.set_cons_zero, List.set_cons_succ]
    exact J6_snd hD hH hrec0 hrec1 h
def L4 (D : Dp) (H : Hd) (k : Nat) (rec0 : HV → Sl → HS → Option ((Unit) × HS)) : Nat → HV → Sl → Int → Sl → Int → Int → HS → Option ((Unit) × HS)
  | 0, _, _, _, _, _, _, _ => none
  | n + 1, y0, y3, y7, y48, y49, y50, S =>
    (if y50 < y49 then
    (Option.bind (HS.idx S y48 y50 1) fun p22 =>
    (Option.bind (HS.ldSl S p22) fun p23 =>
    (if (Sl.len p23 : Int) > 0 then
    (Option.bind (HS.idx S p23 0 1) fun p25 =>
    (Option.bind (HS.ldI S .i64 p25) fun p26 =>
    J5 D H k (L4 D H k rec0 n) rec0 y0 y3 y7 y50 p23 y48 y49 y50 (decide (p26 = y7)) S)) else
    J5 D H k (L4 D H k rec0 n) rec0 y0 y3 y7 y50 p23 y48 y49 y50 false S))) else
    (Option.bind (D H y0 [(.int .i64 y7)] S) fun p31 =>
    (Option.bind (dB p31.1) fun p32 =>
    (if (!p32) = true then
    some ((), p31.2) else
    rec0 y0 y3 p31.2))))
theorem L4_snd {D : Dp} {H : Hd} {k : Nat} {rec0 : HV → Sl → HS → Option ((Unit) × HS)} (hD : DSound Try.prog base W0 D) (hH : HSound Try.prog base W0 β0 H) (hrec0 : ∀ ⦃y0 : HV⦄ ⦃y3 : Sl⦄ ⦃S : HS⦄ ⦃p : (Unit) × HS⦄ ⦃g1 g2 g4 g5 g6 g7 g8 g9 g10 g11 g12 g13 g14 g15 g16 g17 g18 g19 g20 g21 g22 g23 g24 g25 g26 g27 g28 g29 g30 g31 g32 g33 g34 g35 g36 g37 g38 g39 g40 g41 g42 g43 g44 g45 g46 g47 g48 g49 g50 g51 g52 g53 g54 g55 g56 g57 g58 g59 g60 g61 g62 g63 g64 g65 g66 g67 g68 g69 g70 g71 g72 g73 g74 : HV⦄, rec0 y0 y3 S = some p → HRun Try.prog base W0 β0 23 none [.inLoop c4, .inBlock 0] ⟨[y0, g1, g2, (Sl.hv y3), g4, g5, g6, g7, g8, g9, g10, g11, g12, g13, g14, g15, g16, g17, g18, g19, g20, g21, g22, g23, g24, g25, g26, g27, g28, g29, g30, g31, g32, g33, g34, g35, g36, g37, g38, g39, g40, g41, g42, g43, g44, g45, g46, g47, g48, g49, g50, g51, g52, g53, g54, g55, g56, g57, g58, g59, g60, g61, g62, g63, g64, g65, g66, g67, g68, g69, g70, g71, g72, g73, g74], []⟩ S (fun v S1 => v = (.tup []) ∧ S1 = p.2)) : ∀ {n : Nat} ⦃y0 : HV⦄ ⦃y3 : Sl⦄ ⦃y7 : Int⦄ ⦃y48 : Sl⦄ ⦃y49 : Int⦄ ⦃y50 : Int⦄ ⦃S : HS⦄ ⦃p : (Unit) × HS⦄ ⦃g1 g2 g4 g5 g6 g8 g9 g10 g11 g12 g13 g14 g15 g16 g17 g18 g19 g20 g21 g22 g23 g24 g25 g26 g27 g28 g29 g30 g31 g32 g33 g34 g35 g36 g37 g38 g39 g40 g41 g42 g43 g44 g45 g46 g47 g51 g52 g53 g54 g55 g56 g57 g58 g59 g60 g61 g62 g63 g64 g65 g66 g67 g68 g69 g70 g71 g72 g73 g74 : HV⦄, L4 D H k rec0 n y0 y3 y7 y48 y49 y50 S = some p → HRun Try.prog base W0 β0 23 none [.inLoop c41, .inBlock 4, .code c57, .inBlock 1, .inLoop c4, .inBlock 0] ⟨[y0, g1, g2, (Sl.hv y3), g4, g5, g6, (.int .i64 y7), g8, g9, g10, g11, g12, g13, g14, g15, g16, g17, g18, g19, g20, g21, g22, g23, g24, g25, g26, g27, g28, g29, g30, g31, g32, g33, g34, g35, g36, g37, g38, g39, g40, g41, g42, g43, g44, g45, g46, g47, (Sl.hv y48), (.int .i64 y49), (.int .i64 y50), g51, g52, g53, g54, g55, g56, g57, g58, g59, g60, g61, g62, g63, g64, g65, g66, g67, g68, g69, g70, g71, g72, g73, g74], []⟩ S (fun v S1 => v = (.tup []) ∧ S1 = p.2) := by
  intro n
  induction n with
  | zero => intro _ _ _ _ _ _ _ _ _ _ _ _ _ _ _ _ _ _ _ _ _ _ _ _ _ _ _ _ _ _ _ _ _ _ _ _ _ _ _ _ _ _ _ _ _ _ _ _ _ _ _ _ _ _ _ _ _ _ _ _ _ _ _ _ _ _ _ _ _ _ _ _ _ _ _ _ _ h; cases h
  | succ n ih =>
    intro y0 y3 y7 y48 y49 y50 S p g1 g2 g4 g5 g6 g8 g9 g10 g11 g12 g13 g14 g15 g16 g17 g18 g19 g20 g21 g22 g23 g24 g25 g26 g27 g28 g29 g30 g31 g32 g33 g34 g35 g36 g37 g38 g39 g40 g41 g42 g43 g44 g45 g46 g47 g51 g52 g53 g54 g55 g56 g57 g58 g59 g60 g61 g62 g63 g64 g65 g66 g67 g68 g69 g70 g71 g72 g73 g74 h
    simp only [L4] at h
    refine hr_inLoop ?_
    refine q_seq e41 ?_
    refine q_region e42 rfl ?_
    refine q_op (dst := some 51) rfl (fun _ ho => ok_ibin ho (.tmp rfl) (.tmp rfl) rfl) ?_
    refine hr_region_end ?_
    try dsimp only [HAct.put, List.set_cons_zero, List.set_cons_succ]
    refine q_seq e43 ?_
    rcases ifc h with ⟨hc21, h⟩ | ⟨hc21, h⟩
    · refine q_cond_t e44 (.tmp rfl) (decide_eq_true hc21) ?_
      refine q_skipc e45 ?_
      refine q_seq e47 ?_
      refine q_block e48 ?_
      refine q_seq e49 ?_
      refine q_region e50 rfl ?_
      refine q_op (dst := some 52) rfl (fun _ ho => ok_move ho (.tmp rfl)) ?_
      obtain ⟨p22, hp22, h⟩ := bindo h
      refine q_op (dst := some 53) rfl (fun _ ho => ok_indexAddr (s := y48) ho tu22 sz24 (.tmp rfl) (.tmp rfl) hp22) ?_
      obtain ⟨p23, hp23, h⟩ := bindo h
      refine q_op (dst := some 54) rfl (fun _ ho => ok_load_s ho sc24 (.tmp rfl) rfl (ldSl_out hp23)) ?_
      refine q_op (dst := some 8) rfl (fun _ ho => ok_assign ho (.tmp rfl)) ?_
      try dsimp only [HAct.put, List.set_cons_zero, List.set_cons_succ]
      refine q_op (dst := some 9) rfl (fun _ ho => ok_assign ho (.tmp rfl)) ?_
      refine hr_region_end ?_
      try dsimp only [HAct.put, List.set_cons_zero, List.set_cons_succ]
      refine q_seq e51 ?_
      refine q_region e52 rfl ?_
      refine q_op (dst := some 55) rfl (fun _ ho => ok_move ho (.tmp rfl)) ?_
      refine q_op (dst := some 56) rfl (fun _ ho => ok_len_sl (q := Sl.a p23) (n := Sl.len p23) (z := Sl.cap p23) ho rfl tu24 (.tmp rfl)) ?_
      refine q_op (dst := some 57) rfl (fun _ ho => ok_ibin ho (.tmp rfl) (.int _ _) rfl) ?_
      refine q_op (dst := some 58) rfl (fun _ ho => ok_move ho (.tmp rfl)) ?_
      try dsimp only [HAct.put, List.set_cons_zero, List.set_cons_succ]
      rcases ifc h with ⟨hc24, h⟩ | ⟨hc24, h⟩
      · refine q_op_g (t := 58) (dst := some 59) rfl rfl rfl (decide_eq_true hc24) (fun _ ho => ok_move ho (.tmp rfl)) ?_
        obtain ⟨p25, hp25, h⟩ := bindo h
        refine q_op_g (t := 58) (dst := some 60) rfl rfl rfl (decide_eq_true hc24) (fun _ ho => ok_indexAddr (s := p23) ho tu24 sz3 (.tmp rfl) (.int _ _) hp25) ?_
        obtain ⟨p26, hp26, h⟩ := bindo h
        refine q_op_g (t := 58) (dst := some 61) rfl rfl rfl (decide_eq_true hc24) (fun _ ho => ok_load_s ho sc3 (.tmp rfl) rfl (ldI_out hp26)) ?_
        refine q_op_g (t := 58) (dst := some 62) rfl rfl rfl (decide_eq_true hc24) (fun _ ho => ok_move ho (.tmp rfl)) ?_
        try dsimp only [HAct.put, List.set_cons_zero, List.set_cons_succ]
        refine q_op_g (t := 58) (dst := some 63) rfl rfl rfl (decide_eq_true hc24) (fun _ ho => ok_ibin ho (.tmp rfl) (.tmp rfl) rfl) ?_
        refine q_op (dst := some 64) rfl (fun _ ho => ok_pick_tt ho (.tmp rfl) (decide_eq_true hc24) (.tmp rfl)) ?_
        refine hr_region_end ?_
        try dsimp only [HAct.put, List.set_cons_zero, List.set_cons_succ]
        try dsimp only [HAct.put, List.set_cons_zero, List.set_cons_succ]
        exact J5_snd hD hH ih hrec0 h
      · refine q_skip (dst := some 59) (t := 58) rfl rfl rfl (decide_eq_false hc24) ?_
        refine q_skip (dst := some 60) (t := 58) rfl rfl rfl (decide_eq_false hc24) ?_
        refine q_skip (dst := some 61) (t := 58) rfl rfl rfl (decide_eq_false hc24) ?_
        refine q_skip (dst := some 62) (t := 58) rfl rfl rfl (decide_eq_false hc24) ?_
        try dsimp only [HAct.put, List.set_cons_zero, List.set_cons_succ]
        refine q_skip (dst := some 63) (t := 58) rfl rfl rfl (decide_eq_false hc24) ?_
        refine q_op (dst := some 64) rfl (fun _ ho => ok_pick_ff ho (.tmp rfl) (decide_eq_false hc24) (.bool _)) ?_
        refine hr_region_end ?_
        try dsimp only [HAct.put, List.set_cons_zero, List.set_cons_succ]
        try dsimp only [HAct.put, List.set_cons_zero, List.set_cons_succ]
        exact J5_snd hD hH ih hrec0 h
    · refine q_cond_f e44 (.tmp rfl) (decide_eq_false hc21) ?_
      refine q_exit e46 rfl ?_
      refine q_seq e57 ?_
      refine q_region e58 rfl ?_
      refine q_op (dst := some 71) rfl (fun _ ho => ok_move ho (.tmp rfl)) ?_
      refine q_op (dst := some 72) rfl (fun _ ho => ok_move ho (.tmp rfl)) ?_
      obtain ⟨p31, hp31, h⟩ := bindo h
      obtain ⟨p32, hp32, h⟩ := bindo h
      refine q_call (dst := some 73) rfl (.tmp rfl) (.cons (.tmp rfl) Evs.nil) (hD _ _ hH _ _ _ _ _ hp31) ?_
      rintro _ _ ⟨rfl, rfl⟩
      rw [dB_out hp32]
      refine q_op (dst := some 74) rfl (fun _ ho => ok_not ho (.tmp rfl)) ?_
      refine hr_region_end ?_
      try dsimp only [HAct.put, List.set_cons_zero, List.set_cons_succ]
      rcases ifc h with ⟨hc33, h⟩ | ⟨hc33, h⟩
      · refine q_cond_t e59 (.tmp rfl) hc33 ?_
        cases h
        exact q_ret e60 at_.at_ rfl (res0 rfl) ⟨rfl, rfl⟩
      · refine q_cond_f e59 (.tmp rfl) (bfalse hc33) ?_
        refine q_skipc e61 ?_
        refine hr_inBlock ?_
        try dsimp only [HAct.put, List.set_cons_zero, List.set_cons_succ]
        exact hrec0 h
def L1 (D : Dp) (H : Hd) (k : Nat) (rec0 : HV → Sl → HS → Option ((Unit) × HS)) : Nat → HV → Sl → Int → Sl → Int → Int → HS → Option ((Unit) × HS)
  | 0, _, _, _, _, _, _, _ => none
  | n + 1, y0, y3, y4, y12, y13, y14, S =>
    (if y14 < y13 then
    (Option.bind (HS.idx S y12 y14 1) fun p5 =>
    (Option.bind (HS.ldSl S p5) fun p6 =>
    (if (Sl.len p6 : Int) > 0 then
    (if y4 < 0 then
    J2 D H k (L1 D H k rec0 n) rec0 y0 y3 y4 y14 y12 y13 y14 true S else
    (Option.bind (HS.idx S p6 0 1) fun p10 =>
    (Option.bind (HS.ldI S .i64 p10) fun p11 =>
    (Option.bind (HS.idx S y3 y4 1) fun p12 =>
    (Option.bind (HS.ldSl S p12) fun p13 =>
    (Option.bind (HS.idx S p13 0 1) fun p14 =>
    (Option.bind (HS.ldI S .i64 p14) fun p15 =>
    J2 D H k (L1 D H k rec0 n) rec0 y0 y3 y4 y14 y12 y13 y14 (decide (p11 < p15)) S))))))) else
    J2 D H k (L1 D H k rec0 n) rec0 y0 y3 y4 y14 y12 y13 y14 false S))) else
    (if y4 < 0 then
    some ((), S) else
    (Option.bind (HS.idx S y3 y4 1) fun p17 =>
    (Option.bind (HS.ldSl S p17) fun p18 =>
    (Option.bind (HS.idx S p18 0 1) fun p19 =>
    (Option.bind (HS.ldI S .i64 p19) fun p20 =>
    L4 D H k rec0 k y0 y3 p20 y3 (Sl.len y3 : Int) 0 S))))))
theorem L1_snd {D : Dp} {H : Hd} {k : Nat} {rec0 : HV → Sl → HS → Option ((Unit) × HS)} (hD : DSound Try.prog base W0 D) (hH : HSound Try.prog base W0 β0 H) (hrec0 : ∀ ⦃y0 : HV⦄ ⦃y3 : Sl⦄ ⦃S : HS⦄ ⦃p : (Unit) × HS⦄ ⦃g1 g2 g4 g5 g6 g7 g8 g9 g10 g11 g12 g13 g14 g15 g16 g17 g18 g19 g20 g21 g22 g23 g24 g25 g26 g27 g28 g29 g30 g31 g32 g33 g34 g35 g36 g37 g38 g39 g40 g41 g42 g43 g44 g45 g46 g47 g48 g49 g50 g51 g52 g53 g54 g55 g56 g57 g58 g59 g60 g61 g62 g63 g64 g65 g66 g67 g68 g69 g70 g71 g72 g73 g74 : HV⦄, rec0 y0 y3 S = some p → HRun Try.prog base W0 β0 23 none [.inLoop c4, .inBlock 0] ⟨[y0, g1, g2, (Sl.hv y3), g4, g5, g6, g7, g8, g9, g10, g11, g12, g13, g14, g15, g16, g17, g18, g19, g20, g21, g22, g23, g24, g25, g26, g27, g28, g29, g30, g31, g32, g33, g34, g35, g36, g37, g38, g39, g40, g41, g42, g43, g44, g45, g46, g47, g48, g49, g50, g51, g52, g53, g54, g55, g56, g57, g58, g59, g60, g61, g62, g63, g64, g65, g66, g67, g68, g69, g70, g71, g72, g73, g74], []⟩ S (fun v S1 => v = (.tup []) ∧ S1 = p.2)) : ∀ {n : Nat} ⦃y0 : HV⦄ ⦃y3 : Sl⦄ ⦃y4 : Int⦄ ⦃y12 : Sl⦄ ⦃y13 : Int⦄ ⦃y14 : Int⦄ ⦃S : HS⦄ ⦃p : (Unit) × HS⦄ ⦃g1 g2 g5 g6 g7 g8 g9 g10 g11 g15 g16 g17 g18 g19 g20 g21 g22 g23 g24 g25 g26 g27 g28 g29 g30 g31 g32 g33 g34 g35 g36 g37 g38 g39 g40 g41 g42 g43 g44 g45 g46 g47 g48 g49 g50 g51 g52 g53 g54 g55 g56 g57 g58 g59 g60 g61 g62 g63 g64 g65 g66 g67 g68 g69 g70 g71 g72 g73 g74 : HV⦄, L1 D H k rec0 n y0 y3 y4 y12 y13 y14 S = some p → HRun Try.prog base W0 β0 23 none [.inLoop c12, .inBlock 2, .code c28, .inBlock 1, .inLoop c4, .inBlock 0] ⟨[y0, g1, g2, (Sl.hv y3), (.int .i64 y4), g5, g6, g7, g8, g9, g10, g11, (Sl.hv y12), (.int .i64 y13), (.int .i64 y14), g15, g16, g17, g18, g19, g20, g21, g22, g23, g24, g25, g26, g27, g28, g29, g30, g31, g32, g33, g34, g35, g36, g37, g38, g39, g40, g41, g42, g43, g44, g45, g46, g47, g48, g49, g50, g51, g52, g53, g54, g55, g56, g57, g58, g59, g60, g61, g62, g63, g64, g65, g66, g67, g68, g69, g70, g71, g72, g73, g74], []⟩ S (fun v S1 => v = (.tup []) ∧ S1 = p.2) := by
  intro n
  induction n with
  | zero => intro _ _ _ _ _ _ _ _ _ _ _ _ _ _ _ _ _ _ _ _ _ _ _ _ _ _ _ _ _ _ _ _ _ _ _ _ _ _ _ _ _ _ _ _ _ _ _ _ _ _ _ _ _ _ _ _ _ _ _ _ _ _ _ _ _ _ _ _ _ _ _ _ _ _ _ _ _ h; cases h
  | succ n ih =>
    intro y0 y3 y4 y12 y13 y14 S p g1 g2 g5 g6 g7 g8 g9 g10 g11 g15 g16 g17 g18 g19 g20 g21 g22 g23 g24 g25 g26 g27 g28 g29 g30 g31 g32 g33 g34 g35 g36 g37 g38 g39 g40 g41 g42 g43 g44 g45 g46 g47 g48 g49 g50 g51 g52 g53 g54 g55 g56 g57 g58 g59 g60 g61 g62 g63 g64 g65 g66 g67 g68 g69 g70 g71 g72 g73 g74 h
    simp only [L1] at h
    refine hr_inLoop ?_
    refine q_seq e12 ?_
    refine q_region e13 rfl ?_
    refine q_op (dst := some 15) rfl (fun _ ho => ok_ibin ho (.tmp rfl) (.tmp rfl) rfl) ?_
    refine hr_region_end ?_
    try dsimp only [HAct.put, List.set_cons_zero, List.set_cons_succ]
    refine q_seq e14 ?_
    rcases ifc h with ⟨hc4, h⟩ | ⟨hc4, h⟩
    · refine q_cond_t e15 (.tmp rfl) (decide_eq_true hc4) ?_
      refine q_skipc e16 ?_
      refine q_seq e18 ?_
      refine q_block e19 ?_
      refine q_seq e20 ?_
      refine q_region e21 rfl ?_
      refine q_op (dst := some 16) rfl (fun _ ho => ok_move ho (.tmp rfl)) ?_
      obtain ⟨p5, hp5, h⟩ := bindo h
      refine q_op (dst := some 17) rfl (fun _ ho => ok_indexAddr (s := y12) ho tu22 sz24 (.tmp rfl) (.tmp rfl) hp5) ?_
      obtain ⟨p6, hp6, h⟩ := bindo h
      refine q_op (dst := some 18) rfl (fun _ ho => ok_load_s ho sc24 (.tmp rfl) rfl (ldSl_out hp6)) ?_
      refine q_op (dst := some 5) rfl (fun _ ho => ok_assign ho (.tmp rfl)) ?_
      try dsimp only [HAct.put, List.set_cons_zero, List.set_cons_succ]
      refine q_op (dst := some 6) rfl (fun _ ho => ok_assign ho (.tmp rfl)) ?_
      refine hr_region_end ?_
      try dsimp only [HAct.put, List.set_cons_zero, List.set_cons_succ]
      refine q_seq e22 ?_
      refine x_start (cls := [0, 0, 0, 0, 0, 0, 0, 0, 1, 1, 0, 0, 1, 1, 1, 1, 0, 0, 0]) (rk := [0, 1, 2, 3, 4, 5, 6, 7, 8, 9, 10, 11, 12, 13, 14, 15, 16, 17, 18]) e23 (by kernel_rfl) ?_
      refine x_go (f_op (dst := some 19) (ts := [6]) rfl (by intro _ _ h; cases h) (by kernel_rfl) (fun _ _ ho => ok_move ho (.tmp rfl))) rfl ?_
      refine x_go (f_op (dst := some 20) (ts := [19]) rfl (by intro _ _ h; cases h) (by kernel_rfl) (fun _ _ ho => ok_len_sl (q := Sl.a p6) (n := Sl.len p6) (z := Sl.cap p6) ho rfl tu24 (.tmp rfl))) rfl ?_
      refine x_go (f_op (dst := some 21) (ts := [20]) rfl (by intro _ _ h; cases h) (by kernel_rfl) (fun _ _ ho => ok_ibin ho (.tmp rfl) (.int _ _) rfl)) rfl ?_
      refine x_go (f_op (dst := some 22) (ts := [21]) rfl (by intro _ _ h; cases h) (by kernel_rfl) (fun _ _ ho => ok_move ho (.tmp rfl))) rfl ?_
      try dsimp only [HAct.put, List.set_cons_zero, List.set_cons_succ]
      rcases ifc h with ⟨hc7, h⟩ | ⟨hc7, h⟩
      · refine x_go (f_op_g (dst := some 23) (t := 22) (ts := [4, 22]) rfl (by intro _ _ h; cases h) (by kernel_rfl) rfl rfl (decide_eq_true hc7) (fun _ _ ho => ok_move ho (.tmp rfl))) rfl ?_
        refine x_go (f_op_g (dst := some 24) (t := 22) (ts := [23, 22]) rfl (by intro _ _ h; cases h) (by kernel_rfl) rfl rfl (decide_eq_true hc7) (fun _ _ ho => ok_ibin ho (.tmp rfl) (.int _ _) rfl)) rfl ?_
        refine x_go (f_op_g (dst := some 25) (t := 22) (ts := [24, 22]) rfl (by intro _ _ h; cases h) (by kernel_rfl) rfl rfl (decide_eq_true hc7) (fun _ _ ho => ok_move ho (.tmp rfl))) rfl ?_
        rcases ifc h with ⟨hc8, h⟩ | ⟨hc8, h⟩
        · refine x_go (f_skip (dst := some 26) (t := 25) (ts := [6, 25]) rfl (by kernel_rfl) rfl rfl (decide_eq_true hc8)) rfl ?_
          try dsimp only [HAct.put, List.set_cons_zero, List.set_cons_succ]
          refine x_go (r_skip (dst := some 27) (t := 25) (ts := [26, 25]) rfl (by kernel_rfl) rfl rfl (decide_eq_true hc8)) rfl ?_
          refine x_go (r_skip (dst := some 28) (t := 25) (ts := [27, 25]) rfl (by kernel_rfl) rfl rfl (decide_eq_true hc8)) rfl ?_
          refine x_go (f_skip (dst := some 29) (t := 25) (ts := [3, 25]) rfl (by kernel_rfl) rfl rfl (decide_eq_true hc8)) rfl ?_
          refine x_go (f_skip (dst := some 30) (t := 25) (ts := [4, 25]) rfl (by kernel_rfl) rfl rfl (decide_eq_true hc8)) rfl ?_
          try dsimp only [HAct.put, List.set_cons_zero, List.set_cons_succ]
          refine x_go (r_skip (dst := some 31) (t := 25) (ts := [29, 30, 25]) rfl (by kernel_rfl) rfl rfl (decide_eq_true hc8)) rfl ?_
          refine x_go (r_skip (dst := some 32) (t := 25) (ts := [31, 25]) rfl (by kernel_rfl) rfl rfl (decide_eq_true hc8)) rfl ?_
          refine x_go (r_skip (dst := some 33) (t := 25) (ts := [32, 25]) rfl (by kernel_rfl) rfl rfl (decide_eq_true hc8)) rfl ?_
          refine x_go (r_skip (dst := some 34) (t := 25) (ts := [33, 25]) rfl (by kernel_rfl) rfl rfl (decide_eq_true hc8)) rfl ?_
          try dsimp only [HAct.put, List.set_cons_zero, List.set_cons_succ]
          refine x_go (f_skip (dst := some 35) (t := 25) (ts := [28, 34, 25]) rfl (by kernel_rfl) rfl rfl (decide_eq_true hc8)) rfl ?_
          refine x_go (f_op_g (dst := some 36) (t := 22) (ts := [25, 35, 22]) rfl (by intro _ _ h; cases h) (by kernel_rfl) rfl rfl (decide_eq_true hc7) (fun _ _ ho => ok_pick_tt ho (.tmp rfl) (decide_eq_true hc8) (.bool _))) rfl ?_
          refine x_go (f_op (dst := some 37) (ts := [22, 36]) rfl (by intro _ _ h; cases h) (by kernel_rfl) (fun _ _ ho => ok_pick_tt ho (.tmp rfl) (decide_eq_true hc7) (.tmp rfl))) rfl ?_
          refine x_rest rfl ?_
          refine hr_region_end ?_
          try dsimp only [HAct.put, List.set_cons_zero, List.set_cons_succ]
          try dsimp only [HAct.put, List.set_cons_zero, List.set_cons_succ]
          exact J2_snd hD hH ih hrec0 h
        · refine x_go (f_op_g (dst := some 26) (t := 25) (ts := [6, 25]) rfl (by intro _ _ h; cases h) (by kernel_rfl) rfl rfl (decide_eq_false hc8) (fun _ _ ho => ok_move ho (.tmp rfl))) rfl ?_
          try dsimp only [HAct.put, List.set_cons_zero, List.set_cons_succ]
          obtain ⟨p10, hp10, h⟩ := bindo h
          refine x_go (r_op_g (dst := some 27) (t := 25) (ts := [26, 25]) rfl (by intro _ _ h; cases h) (by kernel_rfl) rfl rfl (decide_eq_false hc8) (fun _ ho => ok_indexAddr (s := p6) ho tu24 sz3 (.tmp rfl) (.int _ _) hp10)) rfl ?_
          obtain ⟨p11, hp11, h⟩ := bindo h
          refine x_go (r_op_g (dst := some 28) (t := 25) (ts := [27, 25]) rfl (by intro _ _ h; cases h) (by kernel_rfl) rfl rfl (decide_eq_false hc8) (fun _ ho => ok_load_s ho sc3 (.tmp rfl) rfl (ldI_out hp11))) rfl ?_
          refine x_go (f_op_g (dst := some 29) (t := 25) (ts := [3, 25]) rfl (by intro _ _ h; cases h) (by kernel_rfl) rfl rfl (decide_eq_false hc8) (fun _ _ ho => ok_move ho (.tmp rfl))) rfl ?_
          refine x_go (f_op_g (dst := some 30) (t := 25) (ts := [4, 25]) rfl (by intro _ _ h; cases h) (by kernel_rfl) rfl rfl (decide_eq_false hc8) (fun _ _ ho => ok_move ho (.tmp rfl))) rfl ?_
          try dsimp only [HAct.put, List.set_cons_zero, List.set_cons_succ]
          obtain ⟨p12, hp12, h⟩ := bindo h
          refine x_go (r_op_g (dst := some 31) (t := 25) (ts := [29, 30, 25]) rfl (by intro _ _ h; cases h) (by kernel_rfl) rfl rfl (decide_eq_false hc8) (fun _ ho => ok_indexAddr (s := y3) ho tu22 sz24 (.tmp rfl) (.tmp rfl) hp12)) rfl ?_
          obtain ⟨p13, hp13, h⟩ := bindo h
          refine x_go (r_op_g (dst := some 32) (t := 25) (ts := [31, 25]) rfl (by intro _ _ h; cases h) (by kernel_rfl) rfl rfl (decide_eq_false hc8) (fun _ ho => ok_load_s ho sc24 (.tmp rfl) rfl (ldSl_out hp13))) rfl ?_
          obtain ⟨p14, hp14, h⟩ := bindo h
          refine x_go (r_op_g (dst := some 33) (t := 25) (ts := [32, 25]) rfl (by intro _ _ h; cases h) (by kernel_rfl) rfl rfl (decide_eq_false hc8) (fun _ ho => ok_indexAddr (s := p13) ho tu24 sz3 (.tmp rfl) (.int _ _) hp14)) rfl ?_
          obtain ⟨p15, hp15, h⟩ := bindo h
          refine x_go (r_op_g (dst := some 34) (t := 25) (ts := [33, 25]) rfl (by intro _ _ h; cases h) (by kernel_rfl) rfl rfl (decide_eq_false hc8) (fun _ ho => ok_load_s ho sc3 (.tmp rfl) rfl (ldI_out hp15))) rfl ?_
          try dsimp only [HAct.put, List.set_cons_zero, List.set_cons_succ]
          refine x_go (f_op_g (dst := some 35) (t := 25) (ts := [28, 34, 25]) rfl (by intro _ _ h; cases h) (by kernel_rfl) rfl rfl (decide_eq_false hc8) (fun _ _ ho => ok_ibin ho (.tmp rfl) (.tmp rfl) rfl)) rfl ?_
          refine x_go (f_op_g (dst := some 36) (t := 22) (ts := [25, 35, 22]) rfl (by intro _ _ h; cases h) (by kernel_rfl) rfl rfl (decide_eq_true hc7) (fun _ _ ho => ok_pick_ff ho (.tmp rfl) (decide_eq_false hc8) (.tmp rfl))) rfl ?_
          refine x_go (f_op (dst := some 37) (ts := [22, 36]) rfl (by intro _ _ h; cases h) (by kernel_rfl) (fun _ _ ho => ok_pick_tt ho (.tmp rfl) (decide_eq_true hc7) (.tmp rfl))) rfl ?_
          refine x_rest rfl ?_
          refine hr_region_end ?_
          try dsimp only [HAct.put, List.set_cons_zero, List.set_cons_succ]
          try dsimp only [HAct.put, List.set_cons_zero, List.set_cons_succ]
          exact J2_snd hD hH ih hrec0 h
      · refine x_go (f_skip (dst := some 23) (t := 22) (ts := [4, 22]) rfl (by kernel_rfl) rfl rfl (decide_eq_false hc7)) rfl ?_
        refine x_go (f_skip (dst := some 24) (t := 22) (ts := [23, 22]) rfl (by kernel_rfl) rfl rfl (decide_eq_false hc7)) rfl ?_
        refine x_go (f_skip (dst := some 25) (t := 22) (ts := [24, 22]) rfl (by kernel_rfl) rfl rfl (decide_eq_false hc7)) rfl ?_
        refine x_go (f_skip_u (dst := some 26) (t := 25) (ts := [6, 25]) rfl (by kernel_rfl) rfl rfl) rfl ?_
        try dsimp only [HAct.put, List.set_cons_zero, List.set_cons_succ]
        refine x_go (r_skip_u (dst := some 27) (t := 25) (ts := [26, 25]) rfl (by kernel_rfl) rfl rfl) rfl ?_
        refine x_go (r_skip_u (dst := some 28) (t := 25) (ts := [27, 25]) rfl (by kernel_rfl) rfl rfl) rfl ?_
        refine x_go (f_skip_u (dst := some 29) (t := 25) (ts := [3, 25]) rfl (by kernel_rfl) rfl rfl) rfl ?_
        refine x_go (f_skip_u (dst := some 30) (t := 25) (ts := [4, 25]) rfl (by kernel_rfl) rfl rfl) rfl ?_
        try dsimp only [HAct.put, List.set_cons_zero, List.set_cons_succ]
        refine x_go (r_skip_u (dst := some 31) (t := 25) (ts := [29, 30, 25]) rfl (by kernel_rfl) rfl rfl) rfl ?_
        refine x_go (r_skip_u (dst := some 32) (t := 25) (ts := [31, 25]) rfl (by kernel_rfl) rfl rfl) rfl ?_
        refine x_go (r_skip_u (dst := some 33) (t := 25) (ts := [32, 25]) rfl (by kernel_rfl) rfl rfl) rfl ?_
        refine x_go (r_skip_u (dst := some 34) (t := 25) (ts := [33, 25]) rfl (by kernel_rfl) rfl rfl) rfl ?_
        try dsimp only [HAct.put, List.set_cons_zero, List.set_cons_succ]
        refine x_go (f_skip_u (dst := some 35) (t := 25) (ts := [28, 34, 25]) rfl (by kernel_rfl) rfl rfl) rfl ?_
        refine x_go (f_skip (dst := some 36) (t := 22) (ts := [25, 35, 22]) rfl (by kernel_rfl) rfl rfl (decide_eq_false hc7)) rfl ?_
        refine x_go (f_op (dst := some 37) (ts := [22, 36]) rfl (by intro _ _ h; cases h) (by kernel_rfl) (fun _ _ ho => ok_pick_ff ho (.tmp rfl) (decide_eq_false hc7) (.bool _))) rfl ?_
        refine x_rest rfl ?_
        refine hr_region_end ?_
        try dsimp only [HAct.put, List.set_cons_zero, List.set_cons_succ]
        try dsimp only [HAct.put, List.set_cons_zero, List.set_cons_succ]
        exact J2_snd hD hH ih hrec0 h
    · refine q_cond_f e15 (.tmp rfl) (decide_eq_false hc4) ?_
      refine q_exit e17 rfl ?_
      refine q_seq e28 ?_
      refine q_seq e29 ?_
      refine q_region e30 rfl ?_
      refine q_op (dst := some 40) rfl (fun _ ho => ok_move ho (.tmp rfl)) ?_
      refine q_op (dst := some 41) rfl (fun _ ho => ok_ibin ho (.tmp rfl) (.int _ _) rfl) ?_
      refine hr_region_end ?_
      try dsimp only [HAct.put, List.set_cons_zero, List.set_cons_succ]
      rcases ifc h with ⟨hc16, h⟩ | ⟨hc16, h⟩
      · refine q_cond_t e31 (.tmp rfl) (decide_eq_true hc16) ?_
        cases h
        exact q_ret e32 at_.at_ rfl (res0 rfl) ⟨rfl, rfl⟩
      · refine q_cond_f e31 (.tmp rfl) (decide_eq_false hc16) ?_
        refine q_skipc e33 ?_
        refine q_seq e34 ?_
        refine q_region e35 rfl ?_
        refine q_op (dst := some 42) rfl (fun _ ho => ok_move ho (.tmp rfl)) ?_
        refine q_op (dst := some 43) rfl (fun _ ho => ok_move ho (.tmp rfl)) ?_
        obtain ⟨p17, hp17, h⟩ := bindo h
        refine q_op (dst := some 44) rfl (fun _ ho => ok_indexAddr (s := y3) ho tu22 sz24 (.tmp rfl) (.tmp rfl) hp17) ?_
        obtain ⟨p18, hp18, h⟩ := bindo h
        refine q_op (dst := some 45) rfl (fun _ ho => ok_load_s ho sc24 (.tmp rfl) rfl (ldSl_out hp18)) ?_
        try dsimp only [HAct.put, List.set_cons_zero, List.set_cons_succ]
        obtain ⟨p19, hp19, h⟩ := bindo h
        refine q_op (dst := some 46) rfl (fun _ ho => ok_indexAddr (s := p18) ho tu24 sz3 (.tmp rfl) (.int _ _) hp19) ?_
        obtain ⟨p20, hp20, h⟩ := bindo h
        refine q_op (dst := some 47) rfl (fun _ ho => ok_load_s ho sc3 (.tmp rfl) rfl (ldI_out hp20)) ?_
        refine q_op (dst := some 7) rfl (fun _ ho => ok_assign ho (.tmp rfl)) ?_
        refine hr_region_end ?_
        try dsimp only [HAct.put, List.set_cons_zero, List.set_cons_succ]
        refine q_seq e36 ?_
        refine q_seq e37 ?_
        refine q_region e38 rfl ?_
        refine q_op (dst := some 48) rfl (fun _ ho => ok_move ho (.tmp rfl)) ?_
        refine q_op (dst := some 49) rfl (fun _ ho => ok_len_sl (q := Sl.a y3) (n := Sl.len y3) (z := Sl.cap y3) ho rfl tu22 (.tmp rfl)) ?_
        refine q_op (dst := some 50) rfl (fun _ ho => ok_move ho (.int _ _)) ?_
        refine hr_region_end ?_
        try dsimp only [HAct.put, List.set_cons_zero, List.set_cons_succ]
        refine q_block e39 ?_
        refine q_loop e40 ?_
        try dsimp only [HAct.put, List.set_cons_zero, List.set_cons_succ]
        exact L4_snd hD hH hrec0 h
def L0 (D : Dp) (H : Hd) (k : Nat) : Nat → HV → Sl → HS → Option ((Unit) × HS)
  | 0, _, _, _ => none
  | n + 1, y0, y3, S =>
    L1 D H k (L0 D H k n) k y0 y3 (-1) y3 (Sl.len y3 : Int) 0 S
theorem L0_snd {D : Dp} {H : Hd} {k : Nat} (hD : DSound Try.prog base W0 D) (hH : HSound Try.prog base W0 β0 H)  : ∀ {n : Nat} ⦃y0 : HV⦄ ⦃y3 : Sl⦄ ⦃S : HS⦄ ⦃p : (Unit) × HS⦄ ⦃g1 g2 g4 g5 g6 g7 g8 g9 g10 g11 g12 g13 g14 g15 g16 g17 g18 g19 g20 g21 g22 g23 g24 g25 g26 g27 g28 g29 g30 g31 g32 g33 g34 g35 g36 g37 g38 g39 g40 g41 g42 g43 g44 g45 g46 g47 g48 g49 g50 g51 g52 g53 g54 g55 g56 g57 g58 g59 g60 g61 g62 g63 g64 g65 g66 g67 g68 g69 g70 g71 g72 g73 g74 : HV⦄, L0 D H k n y0 y3 S = some p → HRun Try.prog base W0 β0 23 none [.inLoop c4, .inBlock 0] ⟨[y0, g1, g2, (Sl.hv y3), g4, g5, g6, g7, g8, g9, g10, g11, g12, g13, g14, g15, g16, g17, g18, g19, g20, g21, g22, g23, g24, g25, g26, g27, g28, g29, g30, g31, g32, g33, g34, g35, g36, g37, g38, g39, g40, g41, g42, g43, g44, g45, g46, g47, g48, g49, g50, g51, g52, g53, g54, g55, g56, g57, g58, g59, g60, g61, g62, g63, g64, g65, g66, g67, g68, g69, g70, g71, g72, g73, g74], []⟩ S (fun v S1 => v = (.tup []) ∧ S1 = p.2) := by
  intro n
  induction n with
  | zero => intro _ _ _ _ _ _ _ _ _ _ _ _ _ _ _ _ _ _ _ _ _ _ _ _ _ _ _ _ _ _ _ _ _ _ _ _ _ _ _ _ _ _ _ _ _ _ _ _ _ _ _ _ _ _ _ _ _ _ _ _ _ _ _ _ _ _ _ _ _ _ _ _ _ _ _ _ _ h; cases h
  | succ n ih =>
    intro y0 y3 S p g1 g2 g4 g5 g6 g7 g8 g9 g10 g11 g12 g13 g14 g15 g16 g17 g18 g19 g20 g21 g22 g23 g24 g25 g26 g27 g28 g29 g30 g31 g32 g33 g34 g35 g36 g37 g38 g39 g40 g41 g42 g43 g44 g45 g46 g47 g48 g49 g50 g51 g52 g53 g54 g55 g56 g57 g58 g59 g60 g61 g62 g63 g64 g65 g66 g67 g68 g69 g70 g71 g72 g73 g74 h
    simp only [L0] at h
    refine hr_inLoop ?_
    refine q_block e4 ?_
    refine q_seq e5 ?_
    refine q_region e6 rfl ?_
    refine q_op (dst := some 4) rfl (fun _ ho => ok_assign ho (.int _ _)) ?_
    refine hr_region_end ?_
    try dsimp only [HAct.put, List.set_cons_zero, List.set_cons_succ]
    refine q_seq e7 ?_
    refine q_seq e8 ?_
    refine q_region e9 rfl ?_
    refine q_op (dst := some 12) rfl (fun _ ho => ok_move ho (.tmp rfl)) ?_
    refine q_op (dst := some 13) rfl (fun _ ho => ok_len_sl (q := Sl.a y3) (n := Sl.len y3) (z := Sl.cap y3) ho rfl tu22 (.tmp rfl)) ?_
    refine q_op (dst := some 14) rfl (fun _ ho => ok_move ho (.int _ _)) ?_
    refine hr_region_end ?_
    try dsimp only [HAct.put, List.set_cons_zero, List.set_cons_succ]
    refine q_block e10 ?_
    refine q_loop e11 ?_
    try dsimp only [HAct.put, List.set_cons_zero, List.set_cons_succ]
    exact L1_snd hD hH ih h
def f (D : Dp) (H : Hd) (k : Nat) (x0 : HV) (x1 : (Option HA)) (S : HS) : Option ((Unit) × HS) :=
  (Option.bind (x1) fun p1 =>
  (Option.bind (HS.ldSl S p1) fun p2 =>
  (Option.bind (slices_Clone_int_int_24.f p2 S) fun p3 =>
  L0 D H k k x0 p3.1 p3.2)))
theorem snd {D : Dp} {H : Hd} {k : Nat} {x0 : HV} {x1 : (Option HA)} {S : HS} (hD : DSound Try.prog base W0 D) (hH : HSound Try.prog base W0 β0 H)  {p : (Unit) × HS} (h : f D H k x0 x1 S = some p) : HCall Try.prog base W0 β0 23 [x0, (.ptr x1)] S (fun v S1 => v = (.tup []) ∧ S1 = p.2) := by
  unfold f at h
  refine HCall.of_run at_.at_ body ?_
  show HRun Try.prog base W0 β0 23 none [.code c0] ⟨[x0, (.ptr x1), .tup [], .tup [], .tup [], .tup [], .tup [], .tup [], .tup [], .tup [], .tup [], .tup [], .tup [], .tup [], .tup [], .tup [], .tup [], .tup [], .tup [], .tup [], .tup [], .tup [], .tup [], .tup [], .tup [], .tup [], .tup [], .tup [], .tup [], .tup [], .tup [], .tup [], .tup [], .tup [], .tup [], .tup [], .tup [], .tup [], .tup [], .tup [], .tup [], .tup [], .tup [], .tup [], .tup [], .tup [], .tup [], .tup [], .tup [], .tup [], .tup [], .tup [], .tup [], .tup [], .tup [], .tup [], .tup [], .tup [], .tup [], .tup [], .tup [], .tup [], .tup [], .tup [], .tup [], .tup [], .tup [], .tup [], .tup [], .tup [], .tup [], .tup [], .tup [], .tup [], .tup []], []⟩ S _
  refine q_seq e0 ?_
  refine q_region e1 rfl ?_
  obtain ⟨p1, hp1, h⟩ := bindo h
  obtain ⟨p2, hp2, h⟩ := bindo h
  refine q_op (dst := some 10) rfl (fun _ ho => ok_load_s ho sc22 (.tmp rfl) hp1 (ldSl_out hp2)) ?_
  obtain ⟨p3, hp3, h⟩ := bindo h
  refine q_call (dst := some 11) rfl (.func _) (.cons (.tmp rfl) Evs.nil) (HInv.static slices_Clone_int_int_24.at_ slices_Clone_int_int_24.body (slices_Clone_int_int_24.snd  hp3)) ?_
  rintro _ _ ⟨rfl, rfl⟩
  refine q_op (dst := some 3) rfl (fun _ ho => ok_assign ho (.tmp rfl)) ?_
  refine hr_region_end ?_
  try dsimp only [HAct.put, List.set_cons_zero, List.set_cons_succ]
  refine q_block e2 ?_
  refine q_loop e3 ?_
  try dsimp only [HAct.put, List.set_cons_zero, List.set_cons_succ]
  exact L0_snd hD hH h
end
end set_Union_int_1
namespace set_Union_int
abbrev id : Nat := 9
theorem at_ : FnAt Try.prog 9 Try.f9 := ⟨Try.func9, by kernel_rfl⟩
noncomputable def c0 : Code := (Try.f9.body).getD .skip
noncomputable def c1 : Code := match c0 with | .seq x _ => x | _ => .skip
noncomputable def c2 : Code := match c0 with | .seq _ x => x | _ => .skip
noncomputable def c3 : Code := match c2 with | .seq x _ => x | _ => .skip
noncomputable def c4 : Code := match c2 with | .seq _ x => x | _ => .skip
noncomputable def c5 : Code := match c4 with | .seq x _ => x | _ => .skip
noncomputable def c6 : Code := match c5 with | .seq x _ => x | _ => .skip
noncomputable def c7 : Code := match c5 with | .seq _ x => x | _ => .skip
noncomputable def c8 : Code := match c7 with | .block _ x => x | _ => .skip
noncomputable def c9 : Code := match c8 with | .loop x => x | _ => .skip
noncomputable def c10 : Code := match c9 with | .seq x _ => x | _ => .skip
noncomputable def c11 : Code := match c9 with | .seq _ x => x | _ => .skip
noncomputable def c12 : Code := match c11 with | .seq x _ => x | _ => .skip
noncomputable def c13 : Code := match c12 with | .cond _ x _ => x | _ => .skip
noncomputable def c14 : Code := match c12 with | .cond _ _ x => x | _ => .skip
noncomputable def c15 : Code := match c11 with | .seq _ x => x | _ => .skip
noncomputable def c16 : Code := match c15 with | .seq x _ => x | _ => .skip
noncomputable def c17 : Code := match c16 with | .block _ x => x | _ => .skip
noncomputable def c18 : Code := match c17 with | .seq x _ => x | _ => .skip
noncomputable def c19 : Code := match c17 with | .seq _ x => x | _ => .skip
noncomputable def c20 : Code := match c15 with | .seq _ x => x | _ => .skip
noncomputable def c21 : Code := match c4 with | .seq _ x => x | _ => .skip
noncomputable def c22 : Code := match c21 with | .seq x _ => x | _ => .skip
noncomputable def c23 : Code := match c21 with | .seq _ x => x | _ => .skip
theorem e0 : c0 = .seq c1 c2 := by kernel_rfl
noncomputable def r1 : Array Oper := match c1 with | .region _ x _ => x | _ => #[]
theorem e1 : c1 = .region 0 r1 false := by kernel_rfl
theorem e2 : c2 = .seq c3 c4 := by kernel_rfl
noncomputable def r3 : Array Oper := match c3 with | .region _ x _ => x | _ => #[]
theorem e3 : c3 = .region 1 r3 false := by kernel_rfl
theorem e4 : c4 = .seq c5 c21 := by kernel_rfl
theorem e5 : c5 = .seq c6 c7 := by kernel_rfl
noncomputable def r6 : Array Oper := match c6 with | .region _ x _ => x | _ => #[]
theorem e6 : c6 = .region 2 r6 false := by kernel_rfl
theorem e7 : c7 = .block 0 c8 := by kernel_rfl
theorem e8 : c8 = .loop c9 := by kernel_rfl
theorem e9 : c9 = .seq c10 c11 := by kernel_rfl
noncomputable def r10 : Array Oper := match c10 with | .region _ x _ => x | _ => #[]
theorem e10 : c10 = .region 3 r10 false := by kernel_rfl
theorem e11 : c11 = .seq c12 c15 := by kernel_rfl
theorem e12 : c12 = .cond (.tmp 9) c13 c14 := by kernel_rfl
theorem e13 : c13 = .skip := by kernel_rfl
theorem e14 : c14 = .exit 0 := by kernel_rfl
theorem e15 : c15 = .seq c16 c20 := by kernel_rfl
theorem e16 : c16 = .block 1 c17 := by kernel_rfl
theorem e17 : c17 = .seq c18 c19 := by kernel_rfl
noncomputable def r18 : Array Oper := match c18 with | .region _ x _ => x | _ => #[]
theorem e18 : c18 = .region 4 r18 false := by kernel_rfl
noncomputable def r19 : Array Oper := match c19 with | .region _ x _ => x | _ => #[]
theorem e19 : c19 = .region 5 r19 true := by kernel_rfl
noncomputable def r20 : Array Oper := match c20 with | .region _ x _ => x | _ => #[]
theorem e20 : c20 = .region 6 r20 false := by kernel_rfl
theorem e21 : c21 = .seq c22 c23 := by kernel_rfl
noncomputable def r22 : Array Oper := match c22 with | .region _ x _ => x | _ => #[]
theorem e22 : c22 = .region 7 r22 false := by kernel_rfl
theorem e23 : c23 = .ret := by kernel_rfl
theorem body : Try.f9.body = some c0 := by kernel_rfl
section
variable {base : Nat} {W0 : World} {β0 : Bt}
def L0 (k : Nat) : Nat → (Option HA) → Sl → Int → Int → HS → Option ((HV) × HS)
  | 0, _, _, _, _, _ => none
  | n + 1, y3, y6, y7, y8, S =>
    (if y8 < y7 then
    (Option.bind (HS.idx S y6 y8 1) fun p3 =>
    (Option.bind (HS.ldP S p3) fun p4 =>
    (Option.bind (y3) fun p5 =>
    (Option.bind (HS.ldSl S p5) fun p6 =>
    (Option.bind (set_Set_int_List.f p4 S) fun p7 =>
    (Option.bind (HS.ldSl p7.2 p5) fun p8 =>
    (if p8 = p6 then
    (letv (HS.lit p7.2 [[(Sl.hv p7.1)]] 1) fun p10 =>
    (Option.bind (HS.ldSl (p10.2) p5) fun p11 =>
    (if p11 = p6 then
    (Option.bind (HS.rows (p10.2) (p10.1) 1) fun p13 =>
    (Option.bind (HS.app (p10.2) p6 p13 1) fun p14 =>
    (Option.bind (y3) fun p15 =>
    (Option.bind (HS.sets (p14.2) p15 [(Sl.hv (p14.1))]) fun p16 =>
    (L0 k n) y3 y6 y7 (w64 (y8 + 1)) p16)))) else none))) else none))))))) else
    some ((HV.fn (.func 23) [] [(.ptr y3)]), S))
theorem L0_snd {k : Nat}  : ∀ {n : Nat} ⦃y3 : (Option HA)⦄ ⦃y6 : Sl⦄ ⦃y7 : Int⦄ ⦃y8 : Int⦄ ⦃S : HS⦄ ⦃p : (HV) × HS⦄ ⦃g0 g1 g2 g4 g5 g9 g10 g11 g12 g13 g14 g15 g16 g17 g18 : HV⦄, L0 k n y3 y6 y7 y8 S = some p → HRun Try.prog base W0 β0 9 none [.inLoop c9, .inBlock 0, .code c21] ⟨[g0, g1, g2, (.ptr y3), g4, g5, (Sl.hv y6), (.int .i64 y7), (.int .i64 y8), g9, g10, g11, g12, g13, g14, g15, g16, g17, g18], []⟩ S (fun v S1 => v = p.1 ∧ S1 = p.2) := by
  intro n
  induction n with
  | zero => intro _ _ _ _ _ _ _ _ _ _ _ _ _ _ _ _ _ _ _ _ _ h; cases h
  | succ n ih =>
    intro y3 y6 y7 y8 S p g0 g1 g2 g4 g5 g9 g10 g11 g12 g13 g14 g15 g16 g17 g18 h
    simp only [L0] at h
    refine hr_inLoop ?_
    refine q_seq e9 ?_
    refine q_region e10 rfl ?_
    refine q_op (dst := some 9) rfl (fun _ ho => ok_ibin ho (.tmp rfl) (.tmp rfl) rfl) ?_
    refine hr_region_end ?_
    try dsimp only [HAct.put, List.set_cons_zero, List.set_cons_succ]
    refine q_seq e11 ?_
    rcases ifc h with ⟨hc2, h⟩ | ⟨hc2, h⟩
    · refine q_cond_t e12 (.tmp rfl) (decide_eq_true hc2) ?_
      refine q_skipc e13 ?_
      refine q_seq e15 ?_
      refine q_block e16 ?_
      refine q_seq e17 ?_
      refine q_region e18 rfl ?_
      obtain ⟨p3, hp3, h⟩ := bindo h
      refine q_op (dst := some 10) rfl (fun _ ho => ok_indexAddr (s := y6) ho tu25 sz26 (.tmp rfl) (.tmp rfl) hp3) ?_
      obtain ⟨p4, hp4, h⟩ := bindo h
      refine q_op (dst := some 11) rfl (fun _ ho => ok_load_s ho sc26 (.tmp rfl) rfl (ldP_out hp4)) ?_
      refine q_op (dst := some 5) rfl (fun _ ho => ok_assign ho (.tmp rfl)) ?_
      refine hr_region_end ?_
      try dsimp only [HAct.put, List.set_cons_zero, List.set_cons_succ]
      refine x_start (cls := [3, 0, 2, 2, 2, 2]) (rk := [0, 1, 2, 3, 4, 5]) e19 (by kernel_rfl) ?_
      obtain ⟨p5, hp5, h⟩ := bindo h
      obtain ⟨p6, hp6, h⟩ := bindo h
      refine x_late (r_op (dst := some 12) (ts := [3]) rfl (by intro _ _ h; cases h) (by kernel_rfl) (fun _ ho => ok_load_s ho sc22 (.tmp rfl) hp5 (ldSl_out hp6))) rfl trivial ?_
      refine x_goP (f_op (dst := some 13) (ts := [5]) rfl (by intro _ _ h; cases h) (by kernel_rfl) (fun _ _ ho => ok_move ho (.tmp rfl))) rfl (by decide) (by decide) ?_
      obtain ⟨p7, hp7, h⟩ := bindo h
      obtain ⟨p8, hp8, h⟩ := bindo h
      obtain ⟨hg9, h⟩ := gd h
      refine x_goE (e_call (dst := some 14) (ts := [13]) rfl (by kernel_rfl) (.func _) (.cons (.tmp rfl) Evs.nil) (HInv.static set_Set_int_List.at_ set_Set_int_List.body (set_Set_int_List.snd  hp7))) rfl ⟨.inr (l_op (dst := some 12) (ts := [3]) rfl (by intro _ _ h; cases h) (by kernel_rfl) (fun _ ho => ok_load_s ho sc22 (.tmp rfl) hp5 (ldSl_out (hp8.trans (congrArg some hg9))))), trivial⟩ ?_
      obtain ⟨p10, hp10, h⟩ := leto h
      obtain ⟨p11, hp11, h⟩ := bindo h
      obtain ⟨hg12, h⟩ := gd h
      refine x_goE (e_op (dst := some 15) (ts := [14]) rfl (by intro _ _ h; cases h) (by kernel_rfl) (fun _ ho => ok_buildSlice_s (xs := [(.tmp 14)]) el22 ho rfl rfl (by decide) (.cons (.tmp rfl) Evs.nil) rfl rfl hp10)) rfl ⟨.inr (l_op (dst := some 12) (ts := [3]) rfl (by intro _ _ h; cases h) (by kernel_rfl) (fun _ ho => ok_load_s ho sc22 (.tmp rfl) hp5 (ldSl_out (hp11.trans (congrArg some hg12))))), trivial⟩ ?_
      try dsimp only [HAct.put, List.set_cons_zero, List.set_cons_succ]
      obtain ⟨p13, hp13, h⟩ := bindo h
      obtain ⟨p14, hp14, h⟩ := bindo h
      refine x_goE (e_op (dst := some 16) (ts := [12, 15]) rfl (by intro _ _ h; cases h) (by kernel_rfl) (fun _ ho => ok_append (s := p6) (s1 := (p10.1)) el22 ho rfl rfl ⟨_, tu22⟩ (.tmp rfl) (.tmp rfl) hp13 hp14)) rfl ⟨.inl (by kernel_rfl), trivial⟩ ?_
      obtain ⟨p15, hp15, h⟩ := bindo h
      obtain ⟨p16, hp16, h⟩ := bindo h
      refine x_goE (e_op (dst := none) (ts := [3, 16]) rfl (by intro _ _ h; cases h) (by kernel_rfl) (fun _ ho => ok_store_s (v := (Sl.hv (p14.1))) ho sz22 (.tmp rfl) hp15 (.tmp rfl) rfl hp16)) rfl ⟨.inl (by kernel_rfl), trivial⟩ ?_
      refine x_rest rfl ?_
      refine hr_region_end ?_
      try dsimp only [HAct.put, List.set_cons_zero, List.set_cons_succ]
      refine hr_inBlock ?_
      refine q_region e20 rfl ?_
      refine q_op (dst := some 17) rfl (fun _ ho => ok_ibin ho (.tmp rfl) (.int _ _) rfl) ?_
      refine q_op (dst := some 8) rfl (fun _ ho => ok_move ho (.tmp rfl)) ?_
      refine hr_region_end ?_
      try dsimp only [HAct.put, List.set_cons_zero, List.set_cons_succ]
      try dsimp only [HAct.put, List.set_cons_zero, List.set_cons_succ]
      exact ih h
    · refine q_cond_f e12 (.tmp rfl) (decide_eq_false hc2) ?_
      refine q_exit e14 rfl ?_
      refine q_seq e21 ?_
      refine q_region e22 rfl ?_
      refine q_op (dst := some 18) rfl (fun _ ho => ok_makeFunc ho Evs.nil (.cons (.tmp rfl) Evs.nil)) ?_
      refine q_op (dst := some 2) rfl (fun _ ho => ok_assign ho (.tmp rfl)) ?_
      refine hr_region_end ?_
      try dsimp only [HAct.put, List.set_cons_zero, List.set_cons_succ]
      cases h
      exact q_ret e23 at_.at_ rfl (res1 rfl rfl) ⟨rfl, rfl⟩
def f (k : Nat) (x0 : Sl) (S : HS) : Option ((HV) × HS) :=
  (letv (HS.new S (.cells 1 [[(Sl.hv Sl.nil)]] true)) fun p1 =>
  L0 k k (some (HA.cell0 S.next)) x0 (Sl.len x0 : Int) 0 p1)
theorem snd {k : Nat} {x0 : Sl} {S : HS}  {p : (HV) × HS} (h : f k x0 S = some p) : HCall Try.prog base W0 β0 9 [(Sl.hv x0)] S (fun v S1 => v = p.1 ∧ S1 = p.2) := by
  unfold f at h
  refine HCall.of_run at_.at_ body ?_
  show HRun Try.prog base W0 β0 9 none [.code c0] ⟨[(Sl.hv x0), .tup [], .tup [], .tup [], .tup [], .tup [], .tup [], .tup [], .tup [], .tup [], .tup [], .tup [], .tup [], .tup [], .tup [], .tup [], .tup [], .tup [], .tup []], []⟩ S _
  refine q_seq e0 ?_
  refine q_region e1 rfl ?_
  refine q_op (dst := some 2) rfl (fun _ ho => ok_assign ho (.const fun _ => .nilFn)) ?_
  refine hr_region_end ?_
  try dsimp only [HAct.put, List.set_cons_zero, List.set_cons_succ]
  refine q_seq e2 ?_
  refine q_region e3 rfl ?_
  obtain ⟨p1, hp1, h⟩ := leto h
  refine q_op (dst := some 3) rfl (fun _ ho => ok_alloc_e ho zi22 zr22 (by decide) rfl hp1) ?_
  refine hr_region_end ?_
  try dsimp only [HAct.put, List.set_cons_zero, List.set_cons_succ]
  refine q_seq e4 ?_
  refine q_seq e5 ?_
  refine q_region e6 rfl ?_
  refine q_op (dst := some 6) rfl (fun _ ho => ok_move ho (.tmp rfl)) ?_
  refine q_op (dst := some 7) rfl (fun _ ho => ok_len_sl (q := Sl.a x0) (n := Sl.len x0) (z := Sl.cap x0) ho rfl tu25 (.tmp rfl)) ?_
  refine q_op (dst := some 8) rfl (fun _ ho => ok_move ho (.int _ _)) ?_
  refine hr_region_end ?_
  try dsimp only [HAct.put, List.set_cons_zero, List.set_cons_succ]
  refine q_block e7 ?_
  refine q_loop e8 ?_
  try dsimp only [HAct.put, List.set_cons_zero, List.set_cons_succ]
  exact L0_snd  h
end
end set_Union_int
end Go.Proofs.Ytpdainofeaombaa.X
