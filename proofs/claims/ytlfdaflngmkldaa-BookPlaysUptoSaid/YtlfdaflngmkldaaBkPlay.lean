/- Functions of the program, each as a Lean function over the layer HL: a call answers what the Lean function answers, where it answers. -/
import Derived.Test.YtlfdaflngmkldaaProg
import Derived.Test.YtlfdaflngmkldaaHLx
namespace Go.Proofs.Ytlfdaflngmkldaa.X
open Go.Proofs.Ytlfdaflngmkldaa.HL
set_option linter.unusedVariables false
set_option linter.unusedSimpArgs false
set_option maxRecDepth 20000
set_option maxHeartbeats 4000000
theorem st87 : StructAt Try.prog 87 [(0, 1), (1, 1)] [(.int .i64 0), (Sl.hv Sl.nil)] := structAt_mk (zv := (.agg #[(.int .i64 0), (.slice none 0 0)])) (by kernel_rfl) (by kernel_rfl) (fun β => VRels.cons (.int _ _) (VRels.cons (.slNil none) (VRels.nil β)))
theorem tu85 : Try.prog.underlying 85 = some (.slice 90) := by kernel_rfl
theorem tu3 : Try.prog.underlying 3 = some (.int .i64) := by kernel_rfl
theorem tu111 : Try.prog.underlying 111 = some (.int .u64) := by kernel_rfl
theorem sz90 : ∃ q, Try.prog.info? 90 = some q ∧ q.size = 2 := size_mk' (by kernel_rfl)
theorem ia90 : IsAgg Try.prog 90 2 := isAgg_mk2 (by kernel_rfl) (by kernel_rfl)
theorem tu9 : Try.prog.underlying 9 = some .string := by kernel_rfl
theorem fi90_0 : fieldInfo Try.prog 90 0 = some (0, 9, 1) := by kernel_rfl
theorem sc9 : Scalar Try.prog 9 := ⟨.string, by kernel_rfl, trivial⟩
theorem tu44 : Try.prog.underlying 44 = some (.pointer 87) := by kernel_rfl
theorem fi87_1 : fieldInfo Try.prog 87 1 = some (1, 85, 1) := by kernel_rfl
theorem sc85 : Scalar Try.prog 85 := ⟨(.slice 90), by kernel_rfl, trivial⟩
theorem si90 : SizeIs Try.prog 90 2 24 := sizeIs_mk (by kernel_rfl)
theorem el85 : ElemAt Try.prog 85 90 2 [(.str []), (.int .i64 0)] := elemAt_mk (zv := (.agg #[(.string ⟨#[]⟩), (.int .i64 0)])) (by_ := 24) (by kernel_rfl) (by kernel_rfl) (by decide) (fun β => VRels.cons (.str []) (VRels.cons (.int _ _) (VRels.nil β))) rfl (by decide) rfl
theorem ext60 : ExtAt Try.prog 60 (Extern.SlicesOverlaps.overlaps #[85, 85] #[4]) := ⟨Try.f60, Try.func60, by kernel_rfl, by kernel_rfl, by kernel_rfl, by kernel_rfl⟩
theorem st90 : StructAt Try.prog 90 [(0, 1), (1, 1)] [(.str []), (.int .i64 0)] := structAt_mk (zv := (.agg #[(.string ⟨#[]⟩), (.int .i64 0)])) (by kernel_rfl) (by kernel_rfl) (fun β => VRels.cons (.str []) (VRels.cons (.int _ _) (VRels.nil β)))
theorem fi87_0 : fieldInfo Try.prog 87 0 = some (0, 3, 1) := by kernel_rfl
theorem sc3 : Scalar Try.prog 3 := ⟨(.int .i64), by kernel_rfl, trivial⟩
theorem sz85 : ∃ q, Try.prog.info? 85 = some q ∧ q.size = 1 := size_mk' (by kernel_rfl)
theorem tu42 : Try.prog.underlying 42 = some (.slice 52) := by kernel_rfl
theorem sz52 : ∃ q, Try.prog.info? 52 = some q ∧ q.size = 3 := size_mk' (by kernel_rfl)
theorem fi52_1 : fieldInfo Try.prog 52 1 = some (1, 9, 1) := by kernel_rfl
theorem el72 : ElemAt Try.prog 72 5 1 [(.int .u8 0)] := elemAt_mk (zv := (.int .u8 0)) (by_ := 1) (by kernel_rfl) (by kernel_rfl) (by decide) (fun β => VRels.cons (.int _ _) (VRels.nil β)) rfl (by decide) rfl
theorem tu72 : Try.prog.underlying 72 = some (.slice 5) := by kernel_rfl
theorem tu5 : Try.prog.underlying 5 = some (.int .u8) := by kernel_rfl
theorem fi50_1 : fieldInfo Try.prog 50 1 = some (1, 48, 1) := by kernel_rfl
theorem sc48 : Scalar Try.prog 48 := ⟨(.slice 61), by kernel_rfl, trivial⟩
theorem tu48 : Try.prog.underlying 48 = some (.slice 61) := by kernel_rfl
theorem sz61 : ∃ q, Try.prog.info? 61 = some q ∧ q.size = 2 := size_mk' (by kernel_rfl)
theorem fi61_0 : fieldInfo Try.prog 61 0 = some (0, 9, 1) := by kernel_rfl
theorem el48 : ElemAt Try.prog 48 61 2 [(.str []), (.int .i64 0)] := elemAt_mk (zv := (.agg #[(.string ⟨#[]⟩), (.int .i64 0)])) (by_ := 24) (by kernel_rfl) (by kernel_rfl) (by decide) (fun β => VRels.cons (.str []) (VRels.cons (.int _ _) (VRels.nil β))) rfl (by decide) rfl
theorem si61 : SizeIs Try.prog 61 2 24 := sizeIs_mk (by kernel_rfl)
theorem sz48 : ∃ q, Try.prog.info? 48 = some q ∧ q.size = 1 := size_mk' (by kernel_rfl)
theorem st61 : StructAt Try.prog 61 [(0, 1), (1, 1)] [(.str []), (.int .i64 0)] := structAt_mk (zv := (.agg #[(.string ⟨#[]⟩), (.int .i64 0)])) (by kernel_rfl) (by kernel_rfl) (fun β => VRels.cons (.str []) (VRels.cons (.int _ _) (VRels.nil β)))
theorem fi50_0 : fieldInfo Try.prog 50 0 = some (0, 3, 1) := by kernel_rfl
theorem fi90_1 : fieldInfo Try.prog 90 1 = some (1, 3, 1) := by kernel_rfl
theorem ia61 : IsAgg Try.prog 61 2 := isAgg_mk2 (by kernel_rfl) (by kernel_rfl)
theorem zi90 : (Try.prog.info? 90).map (·.zero) = some (some (.agg #[(.string ⟨#[]⟩), (.int .i64 0)])) := by kernel_rfl
theorem zr90 : ∀ β, VRels β [(.str []), (.int .i64 0)] (Value.cells (.agg #[(.string ⟨#[]⟩), (.int .i64 0)])) := fun β => VRels.cons (.str []) (VRels.cons (.int _ _) (VRels.nil β))
theorem zi4 : (Try.prog.info? 4).map (·.zero) = some (some (.bool false)) := by kernel_rfl
theorem zr4 : ∀ β, VRels β [(.bool false)] (Value.cells (.bool false)) := fun β => VRels.cons (.bool _) (VRels.nil β)
theorem zi3 : (Try.prog.info? 3).map (·.zero) = some (some (.int .i64 0)) := by kernel_rfl
theorem zr3 : ∀ β, VRels β [(.int .i64 0)] (Value.cells (.int .i64 0)) := fun β => VRels.cons (.int _ _) (VRels.nil β)
theorem sz3 : ∃ q, Try.prog.info? 3 = some q ∧ q.size = 1 := size_mk' (by kernel_rfl)
theorem sz4 : ∃ q, Try.prog.info? 4 = some q ∧ q.size = 1 := size_mk' (by kernel_rfl)
theorem tu93 : Try.prog.underlying 93 = some (.func #[65] #[] false) := by kernel_rfl
theorem sc4 : Scalar Try.prog 4 := ⟨.bool, by kernel_rfl, trivial⟩
theorem fi61_1 : fieldInfo Try.prog 61 1 = some (1, 3, 1) := by kernel_rfl
theorem st50 : StructAt Try.prog 50 [(0, 1), (1, 1)] [(.int .i64 0), (Sl.hv Sl.nil)] := structAt_mk (zv := (.agg #[(.int .i64 0), (.slice none 0 0)])) (by kernel_rfl) (by kernel_rfl) (fun β => VRels.cons (.int _ _) (VRels.cons (.slNil none) (VRels.nil β)))
theorem fi52_0 : fieldInfo Try.prog 52 0 = some (0, 3, 1) := by kernel_rfl
theorem tu4 : Try.prog.underlying 4 = some .bool := by kernel_rfl
theorem fi52_2 : fieldInfo Try.prog 52 2 = some (2, 3, 1) := by kernel_rfl
namespace book_New_int
abbrev id : Nat := 20
theorem at_ : FnAt Try.prog 20 Try.f20 := ⟨Try.func20, by kernel_rfl⟩
noncomputable def c0 : Code := (Try.f20.body).getD .skip
noncomputable def c1 : Code := match c0 with | .seq x _ => x | _ => .skip
noncomputable def c2 : Code := match c0 with | .seq _ x => x | _ => .skip
noncomputable def c3 : Code := match c2 with | .seq x _ => x | _ => .skip
noncomputable def c4 : Code := match c3 with | .seq x _ => x | _ => .skip
noncomputable def c5 : Code := match c3 with | .seq _ x => x | _ => .skip
noncomputable def c6 : Code := match c5 with | .cond _ x _ => x | _ => .skip
noncomputable def c7 : Code := match c6 with | .seq x _ => x | _ => .skip
noncomputable def c8 : Code := match c6 with | .seq _ x => x | _ => .skip
noncomputable def c9 : Code := match c5 with | .cond _ _ x => x | _ => .skip
noncomputable def c10 : Code := match c2 with | .seq _ x => x | _ => .skip
noncomputable def c11 : Code := match c10 with | .seq x _ => x | _ => .skip
noncomputable def c12 : Code := match c10 with | .seq _ x => x | _ => .skip
theorem e0 : c0 = .seq c1 c2 := by kernel_rfl
noncomputable def r1 : Array Oper := match c1 with | .region _ x _ => x | _ => #[]
theorem e1 : c1 = .region 0 r1 false := by kernel_rfl
theorem e2 : c2 = .seq c3 c10 := by kernel_rfl
theorem e3 : c3 = .seq c4 c5 := by kernel_rfl
noncomputable def r4 : Array Oper := match c4 with | .region _ x _ => x | _ => #[]
theorem e4 : c4 = .region 1 r4 false := by kernel_rfl
theorem e5 : c5 = .cond (.tmp 9) c6 c9 := by kernel_rfl
theorem e6 : c6 = .seq c7 c8 := by kernel_rfl
noncomputable def r7 : Array Oper := match c7 with | .region _ x _ => x | _ => #[]
theorem e7 : c7 = .region 2 r7 false := by kernel_rfl
theorem e8 : c8 = .ret := by kernel_rfl
theorem e9 : c9 = .skip := by kernel_rfl
theorem e10 : c10 = .seq c11 c12 := by kernel_rfl
noncomputable def r11 : Array Oper := match c11 with | .region _ x _ => x | _ => #[]
theorem e11 : c11 = .region 3 r11 false := by kernel_rfl
theorem e12 : c12 = .ret := by kernel_rfl
theorem body : Try.f20.body = some c0 := by kernel_rfl
section
variable {base : Nat} {W0 : World} {β0 : Bt}
def J0  (y0 : Int) (y9 : Bool) (S : HS) : Option (((Option HA) × Int) × HS) :=
  (if y9 = true then
  some ((none, 2), S) else
  (letv (HS.new S (.cells 2 [[(.int .i64 y0), (Sl.hv Sl.nil)]] true)) fun p3 =>
  some (((some (HA.cell0 S.next)), 0), p3)))
theorem J0_snd   {y0 : Int} {y9 : Bool} {S : HS} {p : ((Option HA) × Int) × HS} {g1 g2 g3 g4 g5 g6 g7 g8 g10 g11 g12 : HV} (h : J0  y0 y9 S = some p) : HRun Try.prog base W0 β0 20 none [.code c5, .code c10] ⟨[(.int .i64 y0), g1, g2, g3, g4, g5, g6, g7, g8, (.bool y9), g10, g11, g12], []⟩ S (fun v S1 => v = (.tup [(.ptr p.1.1), (.int .i64 p.1.2)]) ∧ S1 = p.2) := by
  unfold J0 at h
  rcases ifc h with ⟨hc2, h⟩ | ⟨hc2, h⟩
  · refine q_cond_t e5 (.tmp rfl) hc2 ?_
    refine q_seq e6 ?_
    refine q_region e7 rfl ?_
    refine q_op (dst := some 2) rfl (fun _ ho => ok_assign ho (.const fun _ => .ptrNil)) ?_
    refine q_op (dst := some 3) rfl (fun _ ho => ok_assign ho (.int _ _)) ?_
    refine hr_region_end ?_
    try dsimp only [HAct.put, List.set_cons_zero, List.set_cons_succ]
    cases h
    exact q_ret e8 at_.at_ rfl (res2 rfl rfl rfl) ⟨rfl, rfl⟩
  · refine q_cond_f e5 (.tmp rfl) (bfalse hc2) ?_
    refine q_skipc e9 ?_
    refine q_seq e10 ?_
    refine q_region e11 rfl ?_
    refine q_op (dst := some 10) rfl (fun _ ho => ok_move ho (.tmp rfl)) ?_
    refine q_op (dst := some 11) rfl (fun _ ho => ok_build (is := [0]) (xs := [(.tmp 10)]) (r := [(.int .i64 y0), (Sl.hv Sl.nil)]) st87 ho rfl rfl (.cons (.tmp rfl) Evs.nil) rfl) ?_
    obtain ⟨p3, hp3, h⟩ := leto h
    refine q_op (dst := some 12) rfl (fun _ ho => ok_box_e ho (.tmp rfl) (Nat.zero_lt_succ _) rfl hp3) ?_
    refine q_op (dst := some 2) rfl (fun _ ho => ok_assign ho (.tmp rfl)) ?_
    try dsimp only [HAct.put, List.set_cons_zero, List.set_cons_succ]
    refine q_op (dst := some 3) rfl (fun _ ho => ok_assign ho (.int _ _)) ?_
    refine hr_region_end ?_
    try dsimp only [HAct.put, List.set_cons_zero, List.set_cons_succ]
    cases h
    exact q_ret e12 at_.at_ rfl (res2 rfl rfl rfl) ⟨rfl, rfl⟩
def f (x0 : Int) (S : HS) : Option (((Option HA) × Int) × HS) :=
  (if x0 < 0 then
  J0 x0 true S else
  J0 x0 (decide (x0 > 100000)) S)
theorem snd {x0 : Int} {S : HS}  {p : ((Option HA) × Int) × HS} (h : f x0 S = some p) : HCall Try.prog base W0 β0 20 [(.int .i64 x0)] S (fun v S1 => v = (.tup [(.ptr p.1.1), (.int .i64 p.1.2)]) ∧ S1 = p.2) := by
  unfold f at h
  refine HCall.of_run at_.at_ body ?_
  show HRun Try.prog base W0 β0 20 none [.code c0] ⟨[(.int .i64 x0), .tup [], .tup [], .tup [], .tup [], .tup [], .tup [], .tup [], .tup [], .tup [], .tup [], .tup [], .tup []], []⟩ S _
  refine q_seq e0 ?_
  refine q_region e1 rfl ?_
  refine q_op (dst := some 2) rfl (fun _ ho => ok_assign ho (.const fun _ => .ptrNil)) ?_
  refine q_op (dst := some 3) rfl (fun _ ho => ok_assign ho (.int _ _)) ?_
  refine hr_region_end ?_
  try dsimp only [HAct.put, List.set_cons_zero, List.set_cons_succ]
  refine q_seq e2 ?_
  refine q_seq e3 ?_
  refine q_region e4 rfl ?_
  refine q_op (dst := some 4) rfl (fun _ ho => ok_move ho (.tmp rfl)) ?_
  refine q_op (dst := some 5) rfl (fun _ ho => ok_ibin ho (.tmp rfl) (.int _ _) rfl) ?_
  refine q_op (dst := some 6) rfl (fun _ ho => ok_move ho (.tmp rfl)) ?_
  rcases ifc h with ⟨hc1, h⟩ | ⟨hc1, h⟩
  · refine q_skip (dst := some 7) (t := 6) rfl rfl rfl (decide_eq_true hc1) ?_
    try dsimp only [HAct.put, List.set_cons_zero, List.set_cons_succ]
    refine q_skip (dst := some 8) (t := 6) rfl rfl rfl (decide_eq_true hc1) ?_
    refine q_op (dst := some 9) rfl (fun _ ho => ok_pick_tt ho (.tmp rfl) (decide_eq_true hc1) (.bool _)) ?_
    refine hr_region_end ?_
    try dsimp only [HAct.put, List.set_cons_zero, List.set_cons_succ]
    try dsimp only [HAct.put, List.set_cons_zero, List.set_cons_succ]
    exact J0_snd  h
  · refine q_op_g (t := 6) (dst := some 7) rfl rfl rfl (decide_eq_false hc1) (fun _ ho => ok_move ho (.tmp rfl)) ?_
    try dsimp only [HAct.put, List.set_cons_zero, List.set_cons_succ]
    refine q_op_g (t := 6) (dst := some 8) rfl rfl rfl (decide_eq_false hc1) (fun _ ho => ok_ibin ho (.tmp rfl) (.int _ _) rfl) ?_
    refine q_op (dst := some 9) rfl (fun _ ho => ok_pick_ff ho (.tmp rfl) (decide_eq_false hc1) (.tmp rfl)) ?_
    refine hr_region_end ?_
    try dsimp only [HAct.put, List.set_cons_zero, List.set_cons_succ]
    try dsimp only [HAct.put, List.set_cons_zero, List.set_cons_succ]
    exact J0_snd  h
end
end book_New_int
namespace slices_BinarySearchFunc_book_entry_int_book_entry_int_string
abbrev id : Nat := 58
theorem at_ : FnAt Try.prog 58 Try.f58 := ⟨Try.func58, by kernel_rfl⟩
noncomputable def c0 : Code := (Try.f58.body).getD .skip
noncomputable def c1 : Code := match c0 with | .seq x _ => x | _ => .skip
noncomputable def c2 : Code := match c0 with | .seq _ x => x | _ => .skip
noncomputable def c3 : Code := match c2 with | .seq x _ => x | _ => .skip
noncomputable def c4 : Code := match c2 with | .seq _ x => x | _ => .skip
noncomputable def c5 : Code := match c4 with | .seq x _ => x | _ => .skip
noncomputable def c6 : Code := match c4 with | .seq _ x => x | _ => .skip
noncomputable def c7 : Code := match c6 with | .seq x _ => x | _ => .skip
noncomputable def c8 : Code := match c7 with | .block _ x => x | _ => .skip
noncomputable def c9 : Code := match c8 with | .loop x => x | _ => .skip
noncomputable def c10 : Code := match c9 with | .seq x _ => x | _ => .skip
noncomputable def c11 : Code := match c10 with | .seq x _ => x | _ => .skip
noncomputable def c12 : Code := match c10 with | .seq _ x => x | _ => .skip
noncomputable def c13 : Code := match c12 with | .cond _ x _ => x | _ => .skip
noncomputable def c14 : Code := match c12 with | .cond _ _ x => x | _ => .skip
noncomputable def c15 : Code := match c9 with | .seq _ x => x | _ => .skip
noncomputable def c16 : Code := match c15 with | .block _ x => x | _ => .skip
noncomputable def c17 : Code := match c16 with | .seq x _ => x | _ => .skip
noncomputable def c18 : Code := match c16 with | .seq _ x => x | _ => .skip
noncomputable def c19 : Code := match c18 with | .seq x _ => x | _ => .skip
noncomputable def c20 : Code := match c18 with | .seq _ x => x | _ => .skip
noncomputable def c21 : Code := match c20 with | .cond _ x _ => x | _ => .skip
noncomputable def c22 : Code := match c20 with | .cond _ _ x => x | _ => .skip
noncomputable def c23 : Code := match c6 with | .seq _ x => x | _ => .skip
noncomputable def c24 : Code := match c23 with | .seq x _ => x | _ => .skip
noncomputable def c25 : Code := match c23 with | .seq _ x => x | _ => .skip
theorem e0 : c0 = .seq c1 c2 := by kernel_rfl
noncomputable def r1 : Array Oper := match c1 with | .region _ x _ => x | _ => #[]
theorem e1 : c1 = .region 0 r1 false := by kernel_rfl
theorem e2 : c2 = .seq c3 c4 := by kernel_rfl
noncomputable def r3 : Array Oper := match c3 with | .region _ x _ => x | _ => #[]
theorem e3 : c3 = .region 1 r3 false := by kernel_rfl
theorem e4 : c4 = .seq c5 c6 := by kernel_rfl
noncomputable def r5 : Array Oper := match c5 with | .region _ x _ => x | _ => #[]
theorem e5 : c5 = .region 2 r5 false := by kernel_rfl
theorem e6 : c6 = .seq c7 c23 := by kernel_rfl
theorem e7 : c7 = .block 0 c8 := by kernel_rfl
theorem e8 : c8 = .loop c9 := by kernel_rfl
theorem e9 : c9 = .seq c10 c15 := by kernel_rfl
theorem e10 : c10 = .seq c11 c12 := by kernel_rfl
noncomputable def r11 : Array Oper := match c11 with | .region _ x _ => x | _ => #[]
theorem e11 : c11 = .region 3 r11 false := by kernel_rfl
theorem e12 : c12 = .cond (.tmp 17) c13 c14 := by kernel_rfl
theorem e13 : c13 = .skip := by kernel_rfl
theorem e14 : c14 = .exit 0 := by kernel_rfl
theorem e15 : c15 = .block 1 c16 := by kernel_rfl
theorem e16 : c16 = .seq c17 c18 := by kernel_rfl
noncomputable def r17 : Array Oper := match c17 with | .region _ x _ => x | _ => #[]
theorem e17 : c17 = .region 4 r17 false := by kernel_rfl
theorem e18 : c18 = .seq c19 c20 := by kernel_rfl
noncomputable def r19 : Array Oper := match c19 with | .region _ x _ => x | _ => #[]
theorem e19 : c19 = .region 5 r19 false := by kernel_rfl
theorem e20 : c20 = .cond (.tmp 31) c21 c22 := by kernel_rfl
noncomputable def r21 : Array Oper := match c21 with | .region _ x _ => x | _ => #[]
theorem e21 : c21 = .region 6 r21 false := by kernel_rfl
noncomputable def r22 : Array Oper := match c22 with | .region _ x _ => x | _ => #[]
theorem e22 : c22 = .region 7 r22 false := by kernel_rfl
theorem e23 : c23 = .seq c24 c25 := by kernel_rfl
noncomputable def r24 : Array Oper := match c24 with | .region _ x _ => x | _ => #[]
theorem e24 : c24 = .region 8 r24 false := by kernel_rfl
theorem e25 : c25 = .ret := by kernel_rfl
theorem body : Try.f58.body = some c0 := by kernel_rfl
section
variable {base : Nat} {W0 : World} {β0 : Bt}
def J1 (D : Dp) (H : Hd) (k : Nat) (y35 : Int) (y48 : Bool) (S : HS) : Option ((Int × Bool) × HS) :=
  some ((y35, y48), S)
theorem J1_snd {D : Dp} {H : Hd} {k : Nat} (hD : DSound Try.prog base W0 D) (hH : HSound Try.prog base W0 β0 H)  {y35 : Int} {y48 : Bool} {S : HS} {p : (Int × Bool) × HS} {g0 g1 g2 g3 g4 g5 g6 g7 g8 g9 g10 g11 g12 g13 g14 g15 g16 g17 g18 g19 g20 g21 g22 g23 g24 g25 g26 g27 g28 g29 g30 g31 g32 g33 g34 g36 g37 g38 g39 g40 g41 g42 g43 g44 g45 g46 g47 : HV} (h : J1 D H k y35 y48 S = some p) : HRun Try.prog base W0 β0 58 none [.inRegion r24 [14, 15], .code c25] ⟨[g0, g1, g2, g3, g4, g5, g6, g7, g8, g9, g10, g11, g12, g13, g14, g15, g16, g17, g18, g19, g20, g21, g22, g23, g24, g25, g26, g27, g28, g29, g30, g31, g32, g33, g34, (.int .i64 y35), g36, g37, g38, g39, g40, g41, g42, g43, g44, g45, g46, g47, (.bool y48)], []⟩ S (fun v S1 => v = (.tup [(.int .i64 p.1.1), (.bool p.1.2)]) ∧ S1 = p.2) := by
  unfold J1 at h
  refine q_op (dst := some 6) rfl (fun _ ho => ok_assign ho (.tmp rfl)) ?_
  refine q_op (dst := some 7) rfl (fun _ ho => ok_assign ho (.tmp rfl)) ?_
  refine hr_region_end ?_
  try dsimp only [HAct.put, List.set_cons_zero, List.set_cons_succ]
  cases h
  exact q_ret e25 at_.at_ rfl (res2 rfl rfl rfl) ⟨rfl, rfl⟩
def L0 (D : Dp) (H : Hd) (k : Nat) : Nat → Sl → (List UInt8) → HV → Int → Int → Int → HS → Option ((Int × Bool) × HS)
  | 0, _, _, _, _, _, _, _ => none
  | n + 1, y0, y1, y2, y8, y9, y10, S =>
    (if y9 < y10 then
    (Option.bind (HS.idx S y0 (w64 (Int.fdiv (IntKind.wrap .u64 (w64 (y9 + y10))) (2 ^ (min (Int.toNat 1) (IntKind.bits .u64))))) 2) fun p2 =>
    (Option.bind (HS.ldS S (HA.fld p2 0)) fun p3 =>
    (Option.bind (HS.ldI S .i64 (HA.fld p2 1)) fun p4 =>
    (Option.bind (D H y2 [(.agg [(.str p3), (.int .i64 p4)]), (.str y1)] S) fun p5 =>
    (Option.bind (dI .i64 p5.1) fun p6 =>
    (if p6 < 0 then
    (L0 D H k n) y0 y1 y2 y8 (w64 ((w64 (Int.fdiv (IntKind.wrap .u64 (w64 (y9 + y10))) (2 ^ (min (Int.toNat 1) (IntKind.bits .u64))))) + 1)) y10 p5.2 else
    (L0 D H k n) y0 y1 y2 y8 y9 (w64 (Int.fdiv (IntKind.wrap .u64 (w64 (y9 + y10))) (2 ^ (min (Int.toNat 1) (IntKind.bits .u64))))) p5.2)))))) else
    (if y9 < y8 then
    (Option.bind (HS.idx S y0 y9 2) fun p9 =>
    (Option.bind (HS.ldS S (HA.fld p9 0)) fun p10 =>
    (Option.bind (HS.ldI S .i64 (HA.fld p9 1)) fun p11 =>
    (Option.bind (D H y2 [(.agg [(.str p10), (.int .i64 p11)]), (.str y1)] S) fun p12 =>
    (Option.bind (dI .i64 p12.1) fun p13 =>
    J1 D H k y9 (decide (p13 = 0)) p12.2))))) else
    J1 D H k y9 false S))
theorem L0_snd {D : Dp} {H : Hd} {k : Nat} (hD : DSound Try.prog base W0 D) (hH : HSound Try.prog base W0 β0 H)  : ∀ {n : Nat} ⦃y0 : Sl⦄ ⦃y1 : (List UInt8)⦄ ⦃y2 : HV⦄ ⦃y8 : Int⦄ ⦃y9 : Int⦄ ⦃y10 : Int⦄ ⦃S : HS⦄ ⦃p : (Int × Bool) × HS⦄ ⦃g3 g4 g5 g6 g7 g11 g12 g13 g14 g15 g16 g17 g18 g19 g20 g21 g22 g23 g24 g25 g26 g27 g28 g29 g30 g31 g32 g33 g34 g35 g36 g37 g38 g39 g40 g41 g42 g43 g44 g45 g46 g47 g48 : HV⦄, L0 D H k n y0 y1 y2 y8 y9 y10 S = some p → HRun Try.prog base W0 β0 58 none [.inLoop c9, .inBlock 0, .code c23] ⟨[(Sl.hv y0), (.str y1), y2, g3, g4, g5, g6, g7, (.int .i64 y8), (.int .i64 y9), (.int .i64 y10), g11, g12, g13, g14, g15, g16, g17, g18, g19, g20, g21, g22, g23, g24, g25, g26, g27, g28, g29, g30, g31, g32, g33, g34, g35, g36, g37, g38, g39, g40, g41, g42, g43, g44, g45, g46, g47, g48], []⟩ S (fun v S1 => v = (.tup [(.int .i64 p.1.1), (.bool p.1.2)]) ∧ S1 = p.2) := by
  intro n
  induction n with
  | zero => intro _ _ _ _ _ _ _ _ _ _ _ _ _ _ _ _ _ _ _ _ _ _ _ _ _ _ _ _ _ _ _ _ _ _ _ _ _ _ _ _ _ _ _ _ _ _ _ _ _ _ _ h; cases h
  | succ n ih =>
    intro y0 y1 y2 y8 y9 y10 S p g3 g4 g5 g6 g7 g11 g12 g13 g14 g15 g16 g17 g18 g19 g20 g21 g22 g23 g24 g25 g26 g27 g28 g29 g30 g31 g32 g33 g34 g35 g36 g37 g38 g39 g40 g41 g42 g43 g44 g45 g46 g47 g48 h
    simp only [L0] at h
    refine hr_inLoop ?_
    refine q_seq e9 ?_
    refine q_seq e10 ?_
    refine q_region e11 rfl ?_
    refine q_op (dst := some 15) rfl (fun _ ho => ok_move ho (.tmp rfl)) ?_
    refine q_op (dst := some 16) rfl (fun _ ho => ok_move ho (.tmp rfl)) ?_
    refine q_op (dst := some 17) rfl (fun _ ho => ok_ibin ho (.tmp rfl) (.tmp rfl) rfl) ?_
    refine hr_region_end ?_
    try dsimp only [HAct.put, List.set_cons_zero, List.set_cons_succ]
    rcases ifc h with ⟨hc1, h⟩ | ⟨hc1, h⟩
    · refine q_cond_t e12 (.tmp rfl) (decide_eq_true hc1) ?_
      refine q_skipc e13 ?_
      refine q_block e15 ?_
      refine q_seq e16 ?_
      refine q_region e17 rfl ?_
      refine q_op (dst := some 18) rfl (fun _ ho => ok_move ho (.tmp rfl)) ?_
      refine q_op (dst := some 19) rfl (fun _ ho => ok_move ho (.tmp rfl)) ?_
      refine q_op (dst := some 20) rfl (fun _ ho => ok_ibin ho (.tmp rfl) (.tmp rfl) rfl) ?_
      refine q_op (dst := some 21) rfl (fun _ ho => ok_conv_int ho tu3 tu111 (.tmp rfl)) ?_
      try dsimp only [HAct.put, List.set_cons_zero, List.set_cons_succ]
      refine q_op (dst := some 22) rfl (fun _ ho => ok_shr ho (.tmp rfl) (.int _ _) (by decide)) ?_
      refine q_op (dst := some 23) rfl (fun _ ho => ok_conv_int ho tu111 tu3 (.tmp rfl)) ?_
      refine q_op (dst := some 11) rfl (fun _ ho => ok_assign ho (.tmp rfl)) ?_
      refine hr_region_end ?_
      try dsimp only [HAct.put, List.set_cons_zero, List.set_cons_succ]
      refine q_seq e18 ?_
      refine q_region e19 rfl ?_
      refine q_op (dst := some 24) rfl (fun _ ho => ok_move ho (.tmp rfl)) ?_
      refine q_op (dst := some 25) rfl (fun _ ho => ok_move ho (.tmp rfl)) ?_
      refine q_op (dst := some 26) rfl (fun _ ho => ok_move ho (.tmp rfl)) ?_
      obtain ⟨p2, hp2, h⟩ := bindo h
      refine q_op (dst := some 27) rfl (fun _ ho => ok_indexAddr (s := y0) ho tu85 sz90 (.tmp rfl) (.tmp rfl) hp2) ?_
      try dsimp only [HAct.put, List.set_cons_zero, List.set_cons_succ]
      obtain ⟨p3, hp3, h⟩ := bindo h
      obtain ⟨p4, hp4, h⟩ := bindo h
      refine q_op (dst := some 28) rfl (fun _ ho => ok_load_a (vs := [(.str p3), (.int .i64 p4)]) ho ia90 (.tmp rfl) rfl ⟨ldS_out hp3, ldI_out hp4, trivial⟩ (by simp)) ?_
      refine q_op (dst := some 29) rfl (fun _ ho => ok_move ho (.tmp rfl)) ?_
      obtain ⟨p5, hp5, h⟩ := bindo h
      obtain ⟨p6, hp6, h⟩ := bindo h
      refine q_call (dst := some 30) rfl (.tmp rfl) (.cons (.tmp rfl) (.cons (.tmp rfl) Evs.nil)) (hD _ _ hH _ _ _ _ _ hp5) ?_
      rintro _ _ ⟨rfl, rfl⟩
      rw [dI_out hp6]
      refine q_op (dst := some 31) rfl (fun _ ho => ok_ibin ho (.tmp rfl) (.int _ _) rfl) ?_
      refine hr_region_end ?_
      try dsimp only [HAct.put, List.set_cons_zero, List.set_cons_succ]
      rcases ifc h with ⟨hc7, h⟩ | ⟨hc7, h⟩
      · refine q_cond_t e20 (.tmp rfl) (decide_eq_true hc7) ?_
        refine q_region e21 rfl ?_
        refine q_op (dst := some 32) rfl (fun _ ho => ok_move ho (.tmp rfl)) ?_
        refine q_op (dst := some 33) rfl (fun _ ho => ok_ibin ho (.tmp rfl) (.int _ _) rfl) ?_
        refine q_op (dst := some 9) rfl (fun _ ho => ok_assign ho (.tmp rfl)) ?_
        refine hr_region_end ?_
        try dsimp only [HAct.put, List.set_cons_zero, List.set_cons_succ]
        refine hr_inBlock ?_
        try dsimp only [HAct.put, List.set_cons_zero, List.set_cons_succ]
        exact ih h
      · refine q_cond_f e20 (.tmp rfl) (decide_eq_false hc7) ?_
        refine q_region e22 rfl ?_
        refine q_op (dst := some 34) rfl (fun _ ho => ok_move ho (.tmp rfl)) ?_
        refine q_op (dst := some 10) rfl (fun _ ho => ok_assign ho (.tmp rfl)) ?_
        refine hr_region_end ?_
        try dsimp only [HAct.put, List.set_cons_zero, List.set_cons_succ]
        refine hr_inBlock ?_
        try dsimp only [HAct.put, List.set_cons_zero, List.set_cons_succ]
        exact ih h
    · refine q_cond_f e12 (.tmp rfl) (decide_eq_false hc1) ?_
      refine q_exit e14 rfl ?_
      refine q_seq e23 ?_
      refine q_region e24 rfl ?_
      refine q_op (dst := some 35) rfl (fun _ ho => ok_move ho (.tmp rfl)) ?_
      refine q_op (dst := some 36) rfl (fun _ ho => ok_move ho (.tmp rfl)) ?_
      refine q_op (dst := some 37) rfl (fun _ ho => ok_move ho (.tmp rfl)) ?_
      refine q_op (dst := some 38) rfl (fun _ ho => ok_ibin ho (.tmp rfl) (.tmp rfl) rfl) ?_
      try dsimp only [HAct.put, List.set_cons_zero, List.set_cons_succ]
      refine q_op (dst := some 39) rfl (fun _ ho => ok_move ho (.tmp rfl)) ?_
      rcases ifc h with ⟨hc8, h⟩ | ⟨hc8, h⟩
      · refine q_op_g (t := 39) (dst := some 40) rfl rfl rfl (decide_eq_true hc8) (fun _ ho => ok_move ho (.tmp rfl)) ?_
        refine q_op_g (t := 39) (dst := some 41) rfl rfl rfl (decide_eq_true hc8) (fun _ ho => ok_move ho (.tmp rfl)) ?_
        refine q_op_g (t := 39) (dst := some 42) rfl rfl rfl (decide_eq_true hc8) (fun _ ho => ok_move ho (.tmp rfl)) ?_
        try dsimp only [HAct.put, List.set_cons_zero, List.set_cons_succ]
        obtain ⟨p9, hp9, h⟩ := bindo h
        refine q_op_g (t := 39) (dst := some 43) rfl rfl rfl (decide_eq_true hc8) (fun _ ho => ok_indexAddr (s := y0) ho tu85 sz90 (.tmp rfl) (.tmp rfl) hp9) ?_
        obtain ⟨p10, hp10, h⟩ := bindo h
        obtain ⟨p11, hp11, h⟩ := bindo h
        refine q_op_g (t := 39) (dst := some 44) rfl rfl rfl (decide_eq_true hc8) (fun _ ho => ok_load_a (vs := [(.str p10), (.int .i64 p11)]) ho ia90 (.tmp rfl) rfl ⟨ldS_out hp10, ldI_out hp11, trivial⟩ (by simp)) ?_
        refine q_op_g (t := 39) (dst := some 45) rfl rfl rfl (decide_eq_true hc8) (fun _ ho => ok_move ho (.tmp rfl)) ?_
        obtain ⟨p12, hp12, h⟩ := bindo h
        obtain ⟨p13, hp13, h⟩ := bindo h
        refine q_call_g (t := 39) (dst := some 46) rfl rfl rfl (decide_eq_true hc8) (.tmp rfl) (.cons (.tmp rfl) (.cons (.tmp rfl) Evs.nil)) (hD _ _ hH _ _ _ _ _ hp12) ?_
        rintro _ _ ⟨rfl, rfl⟩
        rw [dI_out hp13]
        try dsimp only [HAct.put, List.set_cons_zero, List.set_cons_succ]
        refine q_op_g (t := 39) (dst := some 47) rfl rfl rfl (decide_eq_true hc8) (fun _ ho => ok_ibin ho (.tmp rfl) (.int _ _) rfl) ?_
        refine q_op (dst := some 48) rfl (fun _ ho => ok_pick_tt ho (.tmp rfl) (decide_eq_true hc8) (.tmp rfl)) ?_
        try dsimp only [HAct.put, List.set_cons_zero, List.set_cons_succ]
        exact J1_snd hD hH h
      · refine q_skip (dst := some 40) (t := 39) rfl rfl rfl (decide_eq_false hc8) ?_
        refine q_skip (dst := some 41) (t := 39) rfl rfl rfl (decide_eq_false hc8) ?_
        refine q_skip (dst := some 42) (t := 39) rfl rfl rfl (decide_eq_false hc8) ?_
        try dsimp only [HAct.put, List.set_cons_zero, List.set_cons_succ]
        refine q_skip (dst := some 43) (t := 39) rfl rfl rfl (decide_eq_false hc8) ?_
        refine q_skip (dst := some 44) (t := 39) rfl rfl rfl (decide_eq_false hc8) ?_
        refine q_skip (dst := some 45) (t := 39) rfl rfl rfl (decide_eq_false hc8) ?_
        refine q_skip (dst := some 46) (t := 39) rfl rfl rfl (decide_eq_false hc8) ?_
        try dsimp only [HAct.put, List.set_cons_zero, List.set_cons_succ]
        refine q_skip (dst := some 47) (t := 39) rfl rfl rfl (decide_eq_false hc8) ?_
        refine q_op (dst := some 48) rfl (fun _ ho => ok_pick_ff ho (.tmp rfl) (decide_eq_false hc8) (.bool _)) ?_
        try dsimp only [HAct.put, List.set_cons_zero, List.set_cons_succ]
        exact J1_snd hD hH h
def f (D : Dp) (H : Hd) (k : Nat) (x0 : Sl) (x1 : (List UInt8)) (x2 : HV) (S : HS) : Option ((Int × Bool) × HS) :=
  L0 D H k k x0 x1 x2 (Sl.len x0 : Int) 0 (Sl.len x0 : Int) S
theorem snd {D : Dp} {H : Hd} {k : Nat} {x0 : Sl} {x1 : (List UInt8)} {x2 : HV} {S : HS} (hD : DSound Try.prog base W0 D) (hH : HSound Try.prog base W0 β0 H)  {p : (Int × Bool) × HS} (h : f D H k x0 x1 x2 S = some p) : HCall Try.prog base W0 β0 58 [(Sl.hv x0), (.str x1), x2] S (fun v S1 => v = (.tup [(.int .i64 p.1.1), (.bool p.1.2)]) ∧ S1 = p.2) := by
  unfold f at h
  refine HCall.of_run at_.at_ body ?_
  show HRun Try.prog base W0 β0 58 none [.code c0] ⟨[(Sl.hv x0), (.str x1), x2, .tup [], .tup [], .tup [], .tup [], .tup [], .tup [], .tup [], .tup [], .tup [], .tup [], .tup [], .tup [], .tup [], .tup [], .tup [], .tup [], .tup [], .tup [], .tup [], .tup [], .tup [], .tup [], .tup [], .tup [], .tup [], .tup [], .tup [], .tup [], .tup [], .tup [], .tup [], .tup [], .tup [], .tup [], .tup [], .tup [], .tup [], .tup [], .tup [], .tup [], .tup [], .tup [], .tup [], .tup [], .tup [], .tup []], []⟩ S _
  refine q_seq e0 ?_
  refine q_region e1 rfl ?_
  refine q_op (dst := some 6) rfl (fun _ ho => ok_assign ho (.int _ _)) ?_
  refine q_op (dst := some 7) rfl (fun _ ho => ok_assign ho (.bool _)) ?_
  refine hr_region_end ?_
  try dsimp only [HAct.put, List.set_cons_zero, List.set_cons_succ]
  refine q_seq e2 ?_
  refine q_region e3 rfl ?_
  refine q_op (dst := some 12) rfl (fun _ ho => ok_move ho (.tmp rfl)) ?_
  refine q_op (dst := some 13) rfl (fun _ ho => ok_len_sl (q := Sl.a x0) (n := Sl.len x0) (z := Sl.cap x0) ho rfl tu85 (.tmp rfl)) ?_
  refine q_op (dst := some 8) rfl (fun _ ho => ok_assign ho (.tmp rfl)) ?_
  refine hr_region_end ?_
  try dsimp only [HAct.put, List.set_cons_zero, List.set_cons_succ]
  refine q_seq e4 ?_
  refine q_region e5 rfl ?_
  refine q_op (dst := some 14) rfl (fun _ ho => ok_move ho (.tmp rfl)) ?_
  refine q_op (dst := some 9) rfl (fun _ ho => ok_assign ho (.int _ _)) ?_
  refine q_op (dst := some 10) rfl (fun _ ho => ok_assign ho (.tmp rfl)) ?_
  refine hr_region_end ?_
  try dsimp only [HAct.put, List.set_cons_zero, List.set_cons_succ]
  refine q_seq e6 ?_
  refine q_block e7 ?_
  refine q_loop e8 ?_
  try dsimp only [HAct.put, List.set_cons_zero, List.set_cons_succ]
  exact L0_snd hD hH h
end
end slices_BinarySearchFunc_book_entry_int_book_entry_int_string
namespace fold_Byte
abbrev id : Nat := 65
theorem at_ : FnAt Try.prog 65 Try.f65 := ⟨Try.func65, by kernel_rfl⟩
noncomputable def c0 : Code := (Try.f65.body).getD .skip
noncomputable def c1 : Code := match c0 with | .seq x _ => x | _ => .skip
noncomputable def c2 : Code := match c0 with | .seq _ x => x | _ => .skip
noncomputable def c3 : Code := match c2 with | .seq x _ => x | _ => .skip
noncomputable def c4 : Code := match c3 with | .block _ x => x | _ => .skip
noncomputable def c5 : Code := match c4 with | .seq x _ => x | _ => .skip
noncomputable def c6 : Code := match c4 with | .seq _ x => x | _ => .skip
noncomputable def c7 : Code := match c6 with | .cond _ x _ => x | _ => .skip
noncomputable def c8 : Code := match c7 with | .seq x _ => x | _ => .skip
noncomputable def c9 : Code := match c7 with | .seq _ x => x | _ => .skip
noncomputable def c10 : Code := match c6 with | .cond _ _ x => x | _ => .skip
noncomputable def c11 : Code := match c10 with | .seq x _ => x | _ => .skip
noncomputable def c12 : Code := match c10 with | .seq _ x => x | _ => .skip
noncomputable def c13 : Code := match c12 with | .cond _ x _ => x | _ => .skip
noncomputable def c14 : Code := match c13 with | .seq x _ => x | _ => .skip
noncomputable def c15 : Code := match c13 with | .seq _ x => x | _ => .skip
noncomputable def c16 : Code := match c12 with | .cond _ _ x => x | _ => .skip
noncomputable def c17 : Code := match c16 with | .seq x _ => x | _ => .skip
noncomputable def c18 : Code := match c16 with | .seq _ x => x | _ => .skip
noncomputable def c19 : Code := match c18 with | .cond _ x _ => x | _ => .skip
noncomputable def c20 : Code := match c19 with | .seq x _ => x | _ => .skip
noncomputable def c21 : Code := match c19 with | .seq _ x => x | _ => .skip
noncomputable def c22 : Code := match c18 with | .cond _ _ x => x | _ => .skip
noncomputable def c23 : Code := match c2 with | .seq _ x => x | _ => .skip
noncomputable def c24 : Code := match c23 with | .seq x _ => x | _ => .skip
noncomputable def c25 : Code := match c23 with | .seq _ x => x | _ => .skip
theorem e0 : c0 = .seq c1 c2 := by kernel_rfl
noncomputable def r1 : Array Oper := match c1 with | .region _ x _ => x | _ => #[]
theorem e1 : c1 = .region 0 r1 false := by kernel_rfl
theorem e2 : c2 = .seq c3 c23 := by kernel_rfl
theorem e3 : c3 = .block 0 c4 := by kernel_rfl
theorem e4 : c4 = .seq c5 c6 := by kernel_rfl
noncomputable def r5 : Array Oper := match c5 with | .region _ x _ => x | _ => #[]
theorem e5 : c5 = .region 1 r5 false := by kernel_rfl
theorem e6 : c6 = .cond (.tmp 3) c7 c10 := by kernel_rfl
theorem e7 : c7 = .seq c8 c9 := by kernel_rfl
noncomputable def r8 : Array Oper := match c8 with | .region _ x _ => x | _ => #[]
theorem e8 : c8 = .region 2 r8 false := by kernel_rfl
theorem e9 : c9 = .ret := by kernel_rfl
theorem e10 : c10 = .seq c11 c12 := by kernel_rfl
noncomputable def r11 : Array Oper := match c11 with | .region _ x _ => x | _ => #[]
theorem e11 : c11 = .region 3 r11 false := by kernel_rfl
theorem e12 : c12 = .cond (.tmp 12) c13 c16 := by kernel_rfl
theorem e13 : c13 = .seq c14 c15 := by kernel_rfl
noncomputable def r14 : Array Oper := match c14 with | .region _ x _ => x | _ => #[]
theorem e14 : c14 = .region 4 r14 false := by kernel_rfl
theorem e15 : c15 = .ret := by kernel_rfl
theorem e16 : c16 = .seq c17 c18 := by kernel_rfl
noncomputable def r17 : Array Oper := match c17 with | .region _ x _ => x | _ => #[]
theorem e17 : c17 = .region 5 r17 false := by kernel_rfl
theorem e18 : c18 = .cond (.tmp 25) c19 c22 := by kernel_rfl
theorem e19 : c19 = .seq c20 c21 := by kernel_rfl
noncomputable def r20 : Array Oper := match c20 with | .region _ x _ => x | _ => #[]
theorem e20 : c20 = .region 6 r20 false := by kernel_rfl
theorem e21 : c21 = .ret := by kernel_rfl
theorem e22 : c22 = .skip := by kernel_rfl
theorem e23 : c23 = .seq c24 c25 := by kernel_rfl
noncomputable def r24 : Array Oper := match c24 with | .region _ x _ => x | _ => #[]
theorem e24 : c24 = .region 7 r24 false := by kernel_rfl
theorem e25 : c25 = .ret := by kernel_rfl
theorem body : Try.f65.body = some c0 := by kernel_rfl
section
variable {base : Nat} {W0 : World} {β0 : Bt}
def J2  (y0 : Int) (y22 : Bool) : Option (Int) :=
  (if y22 = true then
  some (w8 (y0 + 32)) else
  (if y0 = 126 then
  some 94 else
  some y0))
theorem J2_snd   {y0 : Int} {y22 : Bool} {S : HS} {p : Int} {g1 g2 g3 g4 g5 g6 g7 g8 g9 g10 g11 g12 g13 g14 g15 g16 g17 g18 g19 g20 g21 g23 g24 g25 g26 g27 g28 : HV} (h : J2  y0 y22 = some p) : HRun Try.prog base W0 β0 65 none [.inRegion r11 [10], .code c12, .inBlock 0, .code c23] ⟨[(.int .u8 y0), g1, g2, g3, g4, g5, g6, g7, g8, g9, g10, g11, g12, g13, g14, g15, g16, g17, g18, g19, g20, g21, (.bool y22), g23, g24, g25, g26, g27, g28], []⟩ S (fun v S1 => v = (.int .u8 p) ∧ S1 = S) := by
  unfold J2 at h
  refine q_op (dst := some 12) rfl (fun _ ho => ok_assign ho (.tmp rfl)) ?_
  refine hr_region_end ?_
  try dsimp only [HAct.put, List.set_cons_zero, List.set_cons_succ]
  rcases ifc h with ⟨hc5, h⟩ | ⟨hc5, h⟩
  · refine q_cond_t e12 (.tmp rfl) hc5 ?_
    refine q_seq e13 ?_
    refine q_region e14 rfl ?_
    refine q_op (dst := some 23) rfl (fun _ ho => ok_move ho (.tmp rfl)) ?_
    refine q_op (dst := some 24) rfl (fun _ ho => ok_ibin ho (.tmp rfl) (.int _ _) rfl) ?_
    refine q_op (dst := some 2) rfl (fun _ ho => ok_assign ho (.tmp rfl)) ?_
    refine hr_region_end ?_
    try dsimp only [HAct.put, List.set_cons_zero, List.set_cons_succ]
    cases h
    exact q_ret e15 at_.at_ rfl (res1 rfl rfl) ⟨rfl, rfl⟩
  · refine q_cond_f e12 (.tmp rfl) (bfalse hc5) ?_
    refine q_seq e16 ?_
    refine q_region e17 rfl ?_
    refine q_op (dst := some 26) rfl (fun _ ho => ok_move ho (.tmp rfl)) ?_
    refine q_op (dst := some 27) rfl (fun _ ho => ok_ibin ho (.tmp rfl) (.int _ _) rfl) ?_
    refine q_op (dst := some 25) rfl (fun _ ho => ok_assign ho (.tmp rfl)) ?_
    refine hr_region_end ?_
    try dsimp only [HAct.put, List.set_cons_zero, List.set_cons_succ]
    rcases ifc h with ⟨hc6, h⟩ | ⟨hc6, h⟩
    · refine q_cond_t e18 (.tmp rfl) (decide_eq_true hc6) ?_
      refine q_seq e19 ?_
      refine q_region e20 rfl ?_
      refine q_op (dst := some 2) rfl (fun _ ho => ok_assign ho (.int _ _)) ?_
      refine hr_region_end ?_
      try dsimp only [HAct.put, List.set_cons_zero, List.set_cons_succ]
      cases h
      exact q_ret e21 at_.at_ rfl (res1 rfl rfl) ⟨rfl, rfl⟩
    · refine q_cond_f e18 (.tmp rfl) (decide_eq_false hc6) ?_
      refine q_skipc e22 ?_
      refine hr_inBlock ?_
      refine q_seq e23 ?_
      refine q_region e24 rfl ?_
      refine q_op (dst := some 28) rfl (fun _ ho => ok_move ho (.tmp rfl)) ?_
      refine q_op (dst := some 2) rfl (fun _ ho => ok_assign ho (.tmp rfl)) ?_
      refine hr_region_end ?_
      try dsimp only [HAct.put, List.set_cons_zero, List.set_cons_succ]
      cases h
      exact q_ret e25 at_.at_ rfl (res1 rfl rfl) ⟨rfl, rfl⟩
def J1  (y0 : Int) (y18 : Bool) : Option (Int) :=
  (if y18 = true then
  J2 y0 true else
  J2 y0 (decide (y0 = 92)))
theorem J1_snd   {y0 : Int} {y18 : Bool} {S : HS} {p : Int} {g1 g2 g3 g4 g5 g6 g7 g8 g9 g10 g11 g12 g13 g14 g15 g16 g17 g19 g20 g21 g22 g23 g24 g25 g26 g27 g28 : HV} (h : J1  y0 y18 = some p) : HRun Try.prog base W0 β0 65 none [.inRegion r11 [6, 7, 8, 9, 10], .code c12, .inBlock 0, .code c23] ⟨[(.int .u8 y0), g1, g2, g3, g4, g5, g6, g7, g8, g9, g10, g11, g12, g13, g14, g15, g16, g17, (.bool y18), g19, g20, g21, g22, g23, g24, g25, g26, g27, g28], []⟩ S (fun v S1 => v = (.int .u8 p) ∧ S1 = S) := by
  unfold J1 at h
  refine q_op (dst := some 19) rfl (fun _ ho => ok_move ho (.tmp rfl)) ?_
  rcases ifc h with ⟨hc4, h⟩ | ⟨hc4, h⟩
  · refine q_skip (dst := some 20) (t := 19) rfl rfl rfl hc4 ?_
    try dsimp only [HAct.put, List.set_cons_zero, List.set_cons_succ]
    refine q_skip (dst := some 21) (t := 19) rfl rfl rfl hc4 ?_
    refine q_op (dst := some 22) rfl (fun _ ho => ok_pick_tt ho (.tmp rfl) hc4 (.bool _)) ?_
    try dsimp only [HAct.put, List.set_cons_zero, List.set_cons_succ]
    exact J2_snd  h
  · refine q_op_g (t := 19) (dst := some 20) rfl rfl rfl (bfalse hc4) (fun _ ho => ok_move ho (.tmp rfl)) ?_
    try dsimp only [HAct.put, List.set_cons_zero, List.set_cons_succ]
    refine q_op_g (t := 19) (dst := some 21) rfl rfl rfl (bfalse hc4) (fun _ ho => ok_ibin ho (.tmp rfl) (.int _ _) rfl) ?_
    refine q_op (dst := some 22) rfl (fun _ ho => ok_pick_ff ho (.tmp rfl) (bfalse hc4) (.tmp rfl)) ?_
    try dsimp only [HAct.put, List.set_cons_zero, List.set_cons_succ]
    exact J2_snd  h
def J0  (y0 : Int) (y9 : Bool) : Option (Int) :=
  (if y9 = true then
  some (w8 (y0 + 32)) else
  (if y0 = 91 then
  J1 y0 true else
  J1 y0 (decide (y0 = 93))))
theorem J0_snd   {y0 : Int} {y9 : Bool} {S : HS} {p : Int} {g1 g2 g3 g4 g5 g6 g7 g8 g10 g11 g12 g13 g14 g15 g16 g17 g18 g19 g20 g21 g22 g23 g24 g25 g26 g27 g28 : HV} (h : J0  y0 y9 = some p) : HRun Try.prog base W0 β0 65 none [.inRegion r5 [6], .code c6, .inBlock 0, .code c23] ⟨[(.int .u8 y0), g1, g2, g3, g4, g5, g6, g7, g8, (.bool y9), g10, g11, g12, g13, g14, g15, g16, g17, g18, g19, g20, g21, g22, g23, g24, g25, g26, g27, g28], []⟩ S (fun v S1 => v = (.int .u8 p) ∧ S1 = S) := by
  unfold J0 at h
  refine q_op (dst := some 3) rfl (fun _ ho => ok_assign ho (.tmp rfl)) ?_
  refine hr_region_end ?_
  try dsimp only [HAct.put, List.set_cons_zero, List.set_cons_succ]
  rcases ifc h with ⟨hc2, h⟩ | ⟨hc2, h⟩
  · refine q_cond_t e6 (.tmp rfl) hc2 ?_
    refine q_seq e7 ?_
    refine q_region e8 rfl ?_
    refine q_op (dst := some 10) rfl (fun _ ho => ok_move ho (.tmp rfl)) ?_
    refine q_op (dst := some 11) rfl (fun _ ho => ok_ibin ho (.tmp rfl) (.int _ _) rfl) ?_
    refine q_op (dst := some 2) rfl (fun _ ho => ok_assign ho (.tmp rfl)) ?_
    refine hr_region_end ?_
    try dsimp only [HAct.put, List.set_cons_zero, List.set_cons_succ]
    cases h
    exact q_ret e9 at_.at_ rfl (res1 rfl rfl) ⟨rfl, rfl⟩
  · refine q_cond_f e6 (.tmp rfl) (bfalse hc2) ?_
    refine q_seq e10 ?_
    refine q_region e11 rfl ?_
    refine q_op (dst := some 13) rfl (fun _ ho => ok_move ho (.tmp rfl)) ?_
    refine q_op (dst := some 14) rfl (fun _ ho => ok_ibin ho (.tmp rfl) (.int _ _) rfl) ?_
    refine q_op (dst := some 15) rfl (fun _ ho => ok_move ho (.tmp rfl)) ?_
    rcases ifc h with ⟨hc3, h⟩ | ⟨hc3, h⟩
    · refine q_skip (dst := some 16) (t := 15) rfl rfl rfl (decide_eq_true hc3) ?_
      try dsimp only [HAct.put, List.set_cons_zero, List.set_cons_succ]
      refine q_skip (dst := some 17) (t := 15) rfl rfl rfl (decide_eq_true hc3) ?_
      refine q_op (dst := some 18) rfl (fun _ ho => ok_pick_tt ho (.tmp rfl) (decide_eq_true hc3) (.bool _)) ?_
      try dsimp only [HAct.put, List.set_cons_zero, List.set_cons_succ]
      exact J1_snd  h
    · refine q_op_g (t := 15) (dst := some 16) rfl rfl rfl (decide_eq_false hc3) (fun _ ho => ok_move ho (.tmp rfl)) ?_
      try dsimp only [HAct.put, List.set_cons_zero, List.set_cons_succ]
      refine q_op_g (t := 15) (dst := some 17) rfl rfl rfl (decide_eq_false hc3) (fun _ ho => ok_ibin ho (.tmp rfl) (.int _ _) rfl) ?_
      refine q_op (dst := some 18) rfl (fun _ ho => ok_pick_ff ho (.tmp rfl) (decide_eq_false hc3) (.tmp rfl)) ?_
      try dsimp only [HAct.put, List.set_cons_zero, List.set_cons_succ]
      exact J1_snd  h
def f (x0 : Int) : Option (Int) :=
  (if x0 ≥ 65 then
  J0 x0 (decide (x0 ≤ 90)) else
  J0 x0 false)
theorem snd {x0 : Int} {S : HS}  {p : Int} (h : f x0 = some p) : HCall Try.prog base W0 β0 65 [(.int .u8 x0)] S (fun v S1 => v = (.int .u8 p) ∧ S1 = S) := by
  unfold f at h
  refine HCall.of_run at_.at_ body ?_
  show HRun Try.prog base W0 β0 65 none [.code c0] ⟨[(.int .u8 x0), .tup [], .tup [], .tup [], .tup [], .tup [], .tup [], .tup [], .tup [], .tup [], .tup [], .tup [], .tup [], .tup [], .tup [], .tup [], .tup [], .tup [], .tup [], .tup [], .tup [], .tup [], .tup [], .tup [], .tup [], .tup [], .tup [], .tup [], .tup []], []⟩ S _
  refine q_seq e0 ?_
  refine q_region e1 rfl ?_
  refine q_op (dst := some 2) rfl (fun _ ho => ok_assign ho (.int _ _)) ?_
  refine hr_region_end ?_
  try dsimp only [HAct.put, List.set_cons_zero, List.set_cons_succ]
  refine q_seq e2 ?_
  refine q_block e3 ?_
  refine q_seq e4 ?_
  refine q_region e5 rfl ?_
  refine q_op (dst := some 4) rfl (fun _ ho => ok_move ho (.tmp rfl)) ?_
  refine q_op (dst := some 5) rfl (fun _ ho => ok_ibin ho (.tmp rfl) (.int _ _) rfl) ?_
  refine q_op (dst := some 6) rfl (fun _ ho => ok_move ho (.tmp rfl)) ?_
  rcases ifc h with ⟨hc1, h⟩ | ⟨hc1, h⟩
  · refine q_op_g (t := 6) (dst := some 7) rfl rfl rfl (decide_eq_true hc1) (fun _ ho => ok_move ho (.tmp rfl)) ?_
    try dsimp only [HAct.put, List.set_cons_zero, List.set_cons_succ]
    refine q_op_g (t := 6) (dst := some 8) rfl rfl rfl (decide_eq_true hc1) (fun _ ho => ok_ibin ho (.tmp rfl) (.int _ _) rfl) ?_
    refine q_op (dst := some 9) rfl (fun _ ho => ok_pick_tt ho (.tmp rfl) (decide_eq_true hc1) (.tmp rfl)) ?_
    try dsimp only [HAct.put, List.set_cons_zero, List.set_cons_succ]
    exact J0_snd  h
  · refine q_skip (dst := some 7) (t := 6) rfl rfl rfl (decide_eq_false hc1) ?_
    try dsimp only [HAct.put, List.set_cons_zero, List.set_cons_succ]
    refine q_skip (dst := some 8) (t := 6) rfl rfl rfl (decide_eq_false hc1) ?_
    refine q_op (dst := some 9) rfl (fun _ ho => ok_pick_ff ho (.tmp rfl) (decide_eq_false hc1) (.bool _)) ?_
    try dsimp only [HAct.put, List.set_cons_zero, List.set_cons_succ]
    exact J0_snd  h
end
end fold_Byte
namespace fold_Compare
abbrev id : Nat := 49
theorem at_ : FnAt Try.prog 49 Try.f49 := ⟨Try.func49, by kernel_rfl⟩
noncomputable def c0 : Code := (Try.f49.body).getD .skip
noncomputable def c1 : Code := match c0 with | .seq x _ => x | _ => .skip
noncomputable def c2 : Code := match c0 with | .seq _ x => x | _ => .skip
noncomputable def c3 : Code := match c2 with | .seq x _ => x | _ => .skip
noncomputable def c4 : Code := match c3 with | .seq x _ => x | _ => .skip
noncomputable def c5 : Code := match c3 with | .seq _ x => x | _ => .skip
noncomputable def c6 : Code := match c5 with | .block _ x => x | _ => .skip
noncomputable def c7 : Code := match c6 with | .loop x => x | _ => .skip
noncomputable def c8 : Code := match c7 with | .seq x _ => x | _ => .skip
noncomputable def c9 : Code := match c7 with | .seq _ x => x | _ => .skip
noncomputable def c10 : Code := match c9 with | .seq x _ => x | _ => .skip
noncomputable def c11 : Code := match c10 with | .cond _ x _ => x | _ => .skip
noncomputable def c12 : Code := match c10 with | .cond _ _ x => x | _ => .skip
noncomputable def c13 : Code := match c9 with | .seq _ x => x | _ => .skip
noncomputable def c14 : Code := match c13 with | .seq x _ => x | _ => .skip
noncomputable def c15 : Code := match c14 with | .block _ x => x | _ => .skip
noncomputable def c16 : Code := match c15 with | .seq x _ => x | _ => .skip
noncomputable def c17 : Code := match c15 with | .seq _ x => x | _ => .skip
noncomputable def c18 : Code := match c17 with | .seq x _ => x | _ => .skip
noncomputable def c19 : Code := match c17 with | .seq _ x => x | _ => .skip
noncomputable def c20 : Code := match c19 with | .seq x _ => x | _ => .skip
noncomputable def c21 : Code := match c20 with | .seq x _ => x | _ => .skip
noncomputable def c22 : Code := match c20 with | .seq _ x => x | _ => .skip
noncomputable def c23 : Code := match c22 with | .cond _ x _ => x | _ => .skip
noncomputable def c24 : Code := match c23 with | .seq x _ => x | _ => .skip
noncomputable def c25 : Code := match c23 with | .seq _ x => x | _ => .skip
noncomputable def c26 : Code := match c22 with | .cond _ _ x => x | _ => .skip
noncomputable def c27 : Code := match c19 with | .seq _ x => x | _ => .skip
noncomputable def c28 : Code := match c27 with | .seq x _ => x | _ => .skip
noncomputable def c29 : Code := match c27 with | .seq _ x => x | _ => .skip
noncomputable def c30 : Code := match c29 with | .cond _ x _ => x | _ => .skip
noncomputable def c31 : Code := match c30 with | .seq x _ => x | _ => .skip
noncomputable def c32 : Code := match c30 with | .seq _ x => x | _ => .skip
noncomputable def c33 : Code := match c29 with | .cond _ _ x => x | _ => .skip
noncomputable def c34 : Code := match c13 with | .seq _ x => x | _ => .skip
noncomputable def c35 : Code := match c2 with | .seq _ x => x | _ => .skip
noncomputable def c36 : Code := match c35 with | .seq x _ => x | _ => .skip
noncomputable def c37 : Code := match c36 with | .block _ x => x | _ => .skip
noncomputable def c38 : Code := match c37 with | .seq x _ => x | _ => .skip
noncomputable def c39 : Code := match c37 with | .seq _ x => x | _ => .skip
noncomputable def c40 : Code := match c39 with | .cond _ x _ => x | _ => .skip
noncomputable def c41 : Code := match c40 with | .seq x _ => x | _ => .skip
noncomputable def c42 : Code := match c40 with | .seq _ x => x | _ => .skip
noncomputable def c43 : Code := match c39 with | .cond _ _ x => x | _ => .skip
noncomputable def c44 : Code := match c43 with | .seq x _ => x | _ => .skip
noncomputable def c45 : Code := match c43 with | .seq _ x => x | _ => .skip
noncomputable def c46 : Code := match c45 with | .cond _ x _ => x | _ => .skip
noncomputable def c47 : Code := match c46 with | .seq x _ => x | _ => .skip
noncomputable def c48 : Code := match c46 with | .seq _ x => x | _ => .skip
noncomputable def c49 : Code := match c45 with | .cond _ _ x => x | _ => .skip
noncomputable def c50 : Code := match c35 with | .seq _ x => x | _ => .skip
noncomputable def c51 : Code := match c50 with | .seq x _ => x | _ => .skip
noncomputable def c52 : Code := match c50 with | .seq _ x => x | _ => .skip
theorem e0 : c0 = .seq c1 c2 := by kernel_rfl
noncomputable def r1 : Array Oper := match c1 with | .region _ x _ => x | _ => #[]
theorem e1 : c1 = .region 0 r1 false := by kernel_rfl
theorem e2 : c2 = .seq c3 c35 := by kernel_rfl
theorem e3 : c3 = .seq c4 c5 := by kernel_rfl
noncomputable def r4 : Array Oper := match c4 with | .region _ x _ => x | _ => #[]
theorem e4 : c4 = .region 1 r4 false := by kernel_rfl
theorem e5 : c5 = .block 0 c6 := by kernel_rfl
theorem e6 : c6 = .loop c7 := by kernel_rfl
theorem e7 : c7 = .seq c8 c9 := by kernel_rfl
noncomputable def r8 : Array Oper := match c8 with | .region _ x _ => x | _ => #[]
theorem e8 : c8 = .region 2 r8 false := by kernel_rfl
theorem e9 : c9 = .seq c10 c13 := by kernel_rfl
theorem e10 : c10 = .cond (.tmp 14) c11 c12 := by kernel_rfl
theorem e11 : c11 = .skip := by kernel_rfl
theorem e12 : c12 = .exit 0 := by kernel_rfl
theorem e13 : c13 = .seq c14 c34 := by kernel_rfl
theorem e14 : c14 = .block 1 c15 := by kernel_rfl
theorem e15 : c15 = .seq c16 c17 := by kernel_rfl
noncomputable def r16 : Array Oper := match c16 with | .region _ x _ => x | _ => #[]
theorem e16 : c16 = .region 3 r16 false := by kernel_rfl
theorem e17 : c17 = .seq c18 c19 := by kernel_rfl
noncomputable def r18 : Array Oper := match c18 with | .region _ x _ => x | _ => #[]
theorem e18 : c18 = .region 4 r18 true := by kernel_rfl
theorem e19 : c19 = .seq c20 c27 := by kernel_rfl
theorem e20 : c20 = .seq c21 c22 := by kernel_rfl
noncomputable def r21 : Array Oper := match c21 with | .region _ x _ => x | _ => #[]
theorem e21 : c21 = .region 5 r21 false := by kernel_rfl
theorem e22 : c22 = .cond (.tmp 26) c23 c26 := by kernel_rfl
theorem e23 : c23 = .seq c24 c25 := by kernel_rfl
noncomputable def r24 : Array Oper := match c24 with | .region _ x _ => x | _ => #[]
theorem e24 : c24 = .region 6 r24 false := by kernel_rfl
theorem e25 : c25 = .ret := by kernel_rfl
theorem e26 : c26 = .skip := by kernel_rfl
theorem e27 : c27 = .seq c28 c29 := by kernel_rfl
noncomputable def r28 : Array Oper := match c28 with | .region _ x _ => x | _ => #[]
theorem e28 : c28 = .region 7 r28 false := by kernel_rfl
theorem e29 : c29 = .cond (.tmp 29) c30 c33 := by kernel_rfl
theorem e30 : c30 = .seq c31 c32 := by kernel_rfl
noncomputable def r31 : Array Oper := match c31 with | .region _ x _ => x | _ => #[]
theorem e31 : c31 = .region 8 r31 false := by kernel_rfl
theorem e32 : c32 = .ret := by kernel_rfl
theorem e33 : c33 = .skip := by kernel_rfl
noncomputable def r34 : Array Oper := match c34 with | .region _ x _ => x | _ => #[]
theorem e34 : c34 = .region 9 r34 false := by kernel_rfl
theorem e35 : c35 = .seq c36 c50 := by kernel_rfl
theorem e36 : c36 = .block 2 c37 := by kernel_rfl
theorem e37 : c37 = .seq c38 c39 := by kernel_rfl
noncomputable def r38 : Array Oper := match c38 with | .region _ x _ => x | _ => #[]
theorem e38 : c38 = .region 10 r38 false := by kernel_rfl
theorem e39 : c39 = .cond (.tmp 31) c40 c43 := by kernel_rfl
theorem e40 : c40 = .seq c41 c42 := by kernel_rfl
noncomputable def r41 : Array Oper := match c41 with | .region _ x _ => x | _ => #[]
theorem e41 : c41 = .region 11 r41 false := by kernel_rfl
theorem e42 : c42 = .ret := by kernel_rfl
theorem e43 : c43 = .seq c44 c45 := by kernel_rfl
noncomputable def r44 : Array Oper := match c44 with | .region _ x _ => x | _ => #[]
theorem e44 : c44 = .region 12 r44 false := by kernel_rfl
theorem e45 : c45 = .cond (.tmp 37) c46 c49 := by kernel_rfl
theorem e46 : c46 = .seq c47 c48 := by kernel_rfl
noncomputable def r47 : Array Oper := match c47 with | .region _ x _ => x | _ => #[]
theorem e47 : c47 = .region 13 r47 false := by kernel_rfl
theorem e48 : c48 = .ret := by kernel_rfl
theorem e49 : c49 = .skip := by kernel_rfl
theorem e50 : c50 = .seq c51 c52 := by kernel_rfl
noncomputable def r51 : Array Oper := match c51 with | .region _ x _ => x | _ => #[]
theorem e51 : c51 = .region 14 r51 false := by kernel_rfl
theorem e52 : c52 = .ret := by kernel_rfl
theorem body : Try.f49.body = some c0 := by kernel_rfl
section
variable {base : Nat} {W0 : World} {β0 : Bt}
def L0 (k : Nat) : Nat → (List UInt8) → (List UInt8) → Int → Int → Option (Int)
  | 0, _, _, _, _ => none
  | n + 1, y0, y1, y12, y13 =>
    (if y13 < y12 then
    (Option.bind (sat y0 y13) fun p2 =>
    (Option.bind (fold_Byte.f (UInt8.toNat p2 : Int)) fun p3 =>
    (Option.bind (sat y1 y13) fun p4 =>
    (Option.bind (fold_Byte.f (UInt8.toNat p4 : Int)) fun p5 =>
    (if p3 < p5 then
    some (-1) else
    (if p3 > p5 then
    some 1 else
    (L0 k n) y0 y1 y12 (w64 (y13 + 1)))))))) else
    (if (List.length y0 : Int) < (List.length y1 : Int) then
    some (-1) else
    (if (List.length y0 : Int) > (List.length y1 : Int) then
    some 1 else
    some 0)))
theorem L0_snd {k : Nat}  : ∀ {n : Nat} ⦃y0 : (List UInt8)⦄ ⦃y1 : (List UInt8)⦄ ⦃y12 : Int⦄ ⦃y13 : Int⦄ ⦃S : HS⦄ ⦃p : Int⦄ ⦃g2 g3 g4 g5 g6 g7 g8 g9 g10 g11 g14 g15 g16 g17 g18 g19 g20 g21 g22 g23 g24 g25 g26 g27 g28 g29 g30 g31 g32 g33 g34 g35 g36 g37 g38 g39 g40 g41 g42 : HV⦄, L0 k n y0 y1 y12 y13 = some p → HRun Try.prog base W0 β0 49 none [.inLoop c7, .inBlock 0, .code c35] ⟨[(.str y0), (.str y1), g2, g3, g4, g5, g6, g7, g8, g9, g10, g11, (.int .i64 y12), (.int .i64 y13), g14, g15, g16, g17, g18, g19, g20, g21, g22, g23, g24, g25, g26, g27, g28, g29, g30, g31, g32, g33, g34, g35, g36, g37, g38, g39, g40, g41, g42], []⟩ S (fun v S1 => v = (.int .i64 p) ∧ S1 = S) := by
  intro n
  induction n with
  | zero => intro _ _ _ _ _ _ _ _ _ _ _ _ _ _ _ _ _ _ _ _ _ _ _ _ _ _ _ _ _ _ _ _ _ _ _ _ _ _ _ _ _ _ _ _ _ h; cases h
  | succ n ih =>
    intro y0 y1 y12 y13 S p g2 g3 g4 g5 g6 g7 g8 g9 g10 g11 g14 g15 g16 g17 g18 g19 g20 g21 g22 g23 g24 g25 g26 g27 g28 g29 g30 g31 g32 g33 g34 g35 g36 g37 g38 g39 g40 g41 g42 h
    simp only [L0] at h
    refine hr_inLoop ?_
    refine q_seq e7 ?_
    refine q_region e8 rfl ?_
    refine q_op (dst := some 14) rfl (fun _ ho => ok_ibin ho (.tmp rfl) (.tmp rfl) rfl) ?_
    refine hr_region_end ?_
    try dsimp only [HAct.put, List.set_cons_zero, List.set_cons_succ]
    refine q_seq e9 ?_
    rcases ifc h with ⟨hc1, h⟩ | ⟨hc1, h⟩
    · refine q_cond_t e10 (.tmp rfl) (decide_eq_true hc1) ?_
      refine q_skipc e11 ?_
      refine q_seq e13 ?_
      refine q_block e14 ?_
      refine q_seq e15 ?_
      refine q_region e16 rfl ?_
      refine q_op (dst := some 15) rfl (fun _ ho => ok_move ho (.tmp rfl)) ?_
      refine q_op (dst := some 5) rfl (fun _ ho => ok_assign ho (.tmp rfl)) ?_
      refine hr_region_end ?_
      try dsimp only [HAct.put, List.set_cons_zero, List.set_cons_succ]
      refine q_seq e17 ?_
      refine x_start (cls := [0, 0, 0, 0, 0, 0, 0, 0, 0, 0]) (rk := [0, 1, 2, 3, 4, 5, 6, 7, 8, 9]) e18 (by kernel_rfl) ?_
      refine x_go (f_op (dst := some 16) (ts := [0]) rfl (by intro _ _ h; cases h) (by kernel_rfl) (fun _ _ ho => ok_move ho (.tmp rfl))) rfl ?_
      refine x_go (f_op (dst := some 17) (ts := [5]) rfl (by intro _ _ h; cases h) (by kernel_rfl) (fun _ _ ho => ok_move ho (.tmp rfl))) rfl ?_
      obtain ⟨p2, hp2, h⟩ := bindo h
      refine x_go (f_op (dst := some 18) (ts := [16, 17]) rfl (by intro _ _ h; cases h) (by kernel_rfl) (fun _ _ ho => ok_index_s ho tu9 (.tmp rfl) (.tmp rfl) hp2)) rfl ?_
      obtain ⟨p3, hp3, h⟩ := bindo h
      refine x_go (f_call (dst := some 19) (ts := [18]) rfl (by kernel_rfl) (.func _) (.cons (.tmp rfl) Evs.nil) (fun _ => (HInv.static fold_Byte.at_ fold_Byte.body (fold_Byte.snd  hp3)))) rfl ?_
      try dsimp only [HAct.put, List.set_cons_zero, List.set_cons_succ]
      refine x_go (f_op (dst := some 20) (ts := [1]) rfl (by intro _ _ h; cases h) (by kernel_rfl) (fun _ _ ho => ok_move ho (.tmp rfl))) rfl ?_
      refine x_go (f_op (dst := some 21) (ts := [5]) rfl (by intro _ _ h; cases h) (by kernel_rfl) (fun _ _ ho => ok_move ho (.tmp rfl))) rfl ?_
      obtain ⟨p4, hp4, h⟩ := bindo h
      refine x_go (f_op (dst := some 22) (ts := [20, 21]) rfl (by intro _ _ h; cases h) (by kernel_rfl) (fun _ _ ho => ok_index_s ho tu9 (.tmp rfl) (.tmp rfl) hp4)) rfl ?_
      obtain ⟨p5, hp5, h⟩ := bindo h
      refine x_go (f_call (dst := some 23) (ts := [22]) rfl (by kernel_rfl) (.func _) (.cons (.tmp rfl) Evs.nil) (fun _ => (HInv.static fold_Byte.at_ fold_Byte.body (fold_Byte.snd  hp5)))) rfl ?_
      try dsimp only [HAct.put, List.set_cons_zero, List.set_cons_succ]
      refine x_go (f_op (dst := some 6) (ts := [19]) rfl (by intro _ _ h; cases h) (by kernel_rfl) (fun _ _ ho => ok_assign ho (.tmp rfl))) rfl ?_
      refine x_go (f_op (dst := some 7) (ts := [23]) rfl (by intro _ _ h; cases h) (by kernel_rfl) (fun _ _ ho => ok_assign ho (.tmp rfl))) rfl ?_
      refine x_rest rfl ?_
      refine hr_region_end ?_
      try dsimp only [HAct.put, List.set_cons_zero, List.set_cons_succ]
      refine q_seq e19 ?_
      refine q_seq e20 ?_
      refine q_region e21 rfl ?_
      refine q_op (dst := some 24) rfl (fun _ ho => ok_move ho (.tmp rfl)) ?_
      refine q_op (dst := some 25) rfl (fun _ ho => ok_move ho (.tmp rfl)) ?_
      refine q_op (dst := some 26) rfl (fun _ ho => ok_ibin ho (.tmp rfl) (.tmp rfl) rfl) ?_
      refine hr_region_end ?_
      try dsimp only [HAct.put, List.set_cons_zero, List.set_cons_succ]
      rcases ifc h with ⟨hc6, h⟩ | ⟨hc6, h⟩
      · refine q_cond_t e22 (.tmp rfl) (decide_eq_true hc6) ?_
        refine q_seq e23 ?_
        refine q_region e24 rfl ?_
        refine q_op (dst := some 4) rfl (fun _ ho => ok_assign ho (.int _ _)) ?_
        refine hr_region_end ?_
        try dsimp only [HAct.put, List.set_cons_zero, List.set_cons_succ]
        cases h
        exact q_ret e25 at_.at_ rfl (res1 rfl rfl) ⟨rfl, rfl⟩
      · refine q_cond_f e22 (.tmp rfl) (decide_eq_false hc6) ?_
        refine q_skipc e26 ?_
        refine q_seq e27 ?_
        refine q_region e28 rfl ?_
        refine q_op (dst := some 27) rfl (fun _ ho => ok_move ho (.tmp rfl)) ?_
        refine q_op (dst := some 28) rfl (fun _ ho => ok_move ho (.tmp rfl)) ?_
        refine q_op (dst := some 29) rfl (fun _ ho => ok_ibin ho (.tmp rfl) (.tmp rfl) rfl) ?_
        refine hr_region_end ?_
        try dsimp only [HAct.put, List.set_cons_zero, List.set_cons_succ]
        rcases ifc h with ⟨hc7, h⟩ | ⟨hc7, h⟩
        · refine q_cond_t e29 (.tmp rfl) (decide_eq_true hc7) ?_
          refine q_seq e30 ?_
          refine q_region e31 rfl ?_
          refine q_op (dst := some 4) rfl (fun _ ho => ok_assign ho (.int _ _)) ?_
          refine hr_region_end ?_
          try dsimp only [HAct.put, List.set_cons_zero, List.set_cons_succ]
          cases h
          exact q_ret e32 at_.at_ rfl (res1 rfl rfl) ⟨rfl, rfl⟩
        · refine q_cond_f e29 (.tmp rfl) (decide_eq_false hc7) ?_
          refine q_skipc e33 ?_
          refine hr_inBlock ?_
          refine q_region e34 rfl ?_
          refine q_op (dst := some 30) rfl (fun _ ho => ok_ibin ho (.tmp rfl) (.int _ _) rfl) ?_
          refine q_op (dst := some 13) rfl (fun _ ho => ok_move ho (.tmp rfl)) ?_
          refine hr_region_end ?_
          try dsimp only [HAct.put, List.set_cons_zero, List.set_cons_succ]
          try dsimp only [HAct.put, List.set_cons_zero, List.set_cons_succ]
          exact ih h
    · refine q_cond_f e10 (.tmp rfl) (decide_eq_false hc1) ?_
      refine q_exit e12 rfl ?_
      refine q_seq e35 ?_
      refine q_block e36 ?_
      refine q_seq e37 ?_
      refine q_region e38 rfl ?_
      refine q_op (dst := some 32) rfl (fun _ ho => ok_move ho (.tmp rfl)) ?_
      refine q_op (dst := some 33) rfl (fun _ ho => ok_len_str ho rfl tu9 (.tmp rfl)) ?_
      refine q_op (dst := some 34) rfl (fun _ ho => ok_move ho (.tmp rfl)) ?_
      refine q_op (dst := some 35) rfl (fun _ ho => ok_len_str ho rfl tu9 (.tmp rfl)) ?_
      try dsimp only [HAct.put, List.set_cons_zero, List.set_cons_succ]
      refine q_op (dst := some 36) rfl (fun _ ho => ok_ibin ho (.tmp rfl) (.tmp rfl) rfl) ?_
      refine q_op (dst := some 31) rfl (fun _ ho => ok_assign ho (.tmp rfl)) ?_
      refine hr_region_end ?_
      try dsimp only [HAct.put, List.set_cons_zero, List.set_cons_succ]
      rcases ifc h with ⟨hc8, h⟩ | ⟨hc8, h⟩
      · refine q_cond_t e39 (.tmp rfl) (decide_eq_true hc8) ?_
        refine q_seq e40 ?_
        refine q_region e41 rfl ?_
        refine q_op (dst := some 4) rfl (fun _ ho => ok_assign ho (.int _ _)) ?_
        refine hr_region_end ?_
        try dsimp only [HAct.put, List.set_cons_zero, List.set_cons_succ]
        cases h
        exact q_ret e42 at_.at_ rfl (res1 rfl rfl) ⟨rfl, rfl⟩
      · refine q_cond_f e39 (.tmp rfl) (decide_eq_false hc8) ?_
        refine q_seq e43 ?_
        refine q_region e44 rfl ?_
        refine q_op (dst := some 38) rfl (fun _ ho => ok_move ho (.tmp rfl)) ?_
        refine q_op (dst := some 39) rfl (fun _ ho => ok_len_str ho rfl tu9 (.tmp rfl)) ?_
        refine q_op (dst := some 40) rfl (fun _ ho => ok_move ho (.tmp rfl)) ?_
        refine q_op (dst := some 41) rfl (fun _ ho => ok_len_str ho rfl tu9 (.tmp rfl)) ?_
        try dsimp only [HAct.put, List.set_cons_zero, List.set_cons_succ]
        refine q_op (dst := some 42) rfl (fun _ ho => ok_ibin ho (.tmp rfl) (.tmp rfl) rfl) ?_
        refine q_op (dst := some 37) rfl (fun _ ho => ok_assign ho (.tmp rfl)) ?_
        refine hr_region_end ?_
        try dsimp only [HAct.put, List.set_cons_zero, List.set_cons_succ]
        rcases ifc h with ⟨hc9, h⟩ | ⟨hc9, h⟩
        · refine q_cond_t e45 (.tmp rfl) (decide_eq_true hc9) ?_
          refine q_seq e46 ?_
          refine q_region e47 rfl ?_
          refine q_op (dst := some 4) rfl (fun _ ho => ok_assign ho (.int _ _)) ?_
          refine hr_region_end ?_
          try dsimp only [HAct.put, List.set_cons_zero, List.set_cons_succ]
          cases h
          exact q_ret e48 at_.at_ rfl (res1 rfl rfl) ⟨rfl, rfl⟩
        · refine q_cond_f e45 (.tmp rfl) (decide_eq_false hc9) ?_
          refine q_skipc e49 ?_
          refine hr_inBlock ?_
          refine q_seq e50 ?_
          refine q_region e51 rfl ?_
          refine q_op (dst := some 4) rfl (fun _ ho => ok_assign ho (.int _ _)) ?_
          refine hr_region_end ?_
          try dsimp only [HAct.put, List.set_cons_zero, List.set_cons_succ]
          cases h
          exact q_ret e52 at_.at_ rfl (res1 rfl rfl) ⟨rfl, rfl⟩
def f (k : Nat) (x0 : (List UInt8)) (x1 : (List UInt8)) : Option (Int) :=
  L0 k k x0 x1 (mn (List.length x0 : Int) (List.length x1 : Int)) 0
theorem snd {k : Nat} {x0 : (List UInt8)} {x1 : (List UInt8)} {S : HS}  {p : Int} (h : f k x0 x1 = some p) : HCall Try.prog base W0 β0 49 [(.str x0), (.str x1)] S (fun v S1 => v = (.int .i64 p) ∧ S1 = S) := by
  unfold f at h
  refine HCall.of_run at_.at_ body ?_
  show HRun Try.prog base W0 β0 49 none [.code c0] ⟨[(.str x0), (.str x1), .tup [], .tup [], .tup [], .tup [], .tup [], .tup [], .tup [], .tup [], .tup [], .tup [], .tup [], .tup [], .tup [], .tup [], .tup [], .tup [], .tup [], .tup [], .tup [], .tup [], .tup [], .tup [], .tup [], .tup [], .tup [], .tup [], .tup [], .tup [], .tup [], .tup [], .tup [], .tup [], .tup [], .tup [], .tup [], .tup [], .tup [], .tup [], .tup [], .tup [], .tup []], []⟩ S _
  refine q_seq e0 ?_
  refine q_region e1 rfl ?_
  refine q_op (dst := some 4) rfl (fun _ ho => ok_assign ho (.int _ _)) ?_
  refine hr_region_end ?_
  try dsimp only [HAct.put, List.set_cons_zero, List.set_cons_succ]
  refine q_seq e2 ?_
  refine q_seq e3 ?_
  refine q_region e4 rfl ?_
  refine q_op (dst := some 8) rfl (fun _ ho => ok_move ho (.tmp rfl)) ?_
  refine q_op (dst := some 9) rfl (fun _ ho => ok_len_str ho rfl tu9 (.tmp rfl)) ?_
  refine q_op (dst := some 10) rfl (fun _ ho => ok_move ho (.tmp rfl)) ?_
  refine q_op (dst := some 11) rfl (fun _ ho => ok_len_str ho rfl tu9 (.tmp rfl)) ?_
  try dsimp only [HAct.put, List.set_cons_zero, List.set_cons_succ]
  refine q_op (dst := some 12) rfl (fun _ ho => ok_min ho (.tmp rfl) (.tmp rfl)) ?_
  refine q_op (dst := some 13) rfl (fun _ ho => ok_move ho (.int _ _)) ?_
  refine hr_region_end ?_
  try dsimp only [HAct.put, List.set_cons_zero, List.set_cons_succ]
  refine q_block e5 ?_
  refine q_loop e6 ?_
  try dsimp only [HAct.put, List.set_cons_zero, List.set_cons_succ]
  exact L0_snd  h
end
end fold_Compare
namespace book_Book_int_at_1
abbrev id : Nat := 59
theorem at_ : FnAt Try.prog 59 Try.f59 := ⟨Try.func59, by kernel_rfl⟩
noncomputable def c0 : Code := (Try.f59.body).getD .skip
noncomputable def c1 : Code := match c0 with | .seq x _ => x | _ => .skip
noncomputable def c2 : Code := match c0 with | .seq _ x => x | _ => .skip
noncomputable def c3 : Code := match c2 with | .seq x _ => x | _ => .skip
noncomputable def c4 : Code := match c2 with | .seq _ x => x | _ => .skip
theorem e0 : c0 = .seq c1 c2 := by kernel_rfl
noncomputable def r1 : Array Oper := match c1 with | .region _ x _ => x | _ => #[]
theorem e1 : c1 = .region 0 r1 false := by kernel_rfl
theorem e2 : c2 = .seq c3 c4 := by kernel_rfl
noncomputable def r3 : Array Oper := match c3 with | .region _ x _ => x | _ => #[]
theorem e3 : c3 = .region 1 r3 false := by kernel_rfl
theorem e4 : c4 = .ret := by kernel_rfl
theorem body : Try.f59.body = some c0 := by kernel_rfl
section
variable {base : Nat} {W0 : World} {β0 : Bt}
def f (k : Nat) (x0_0 : (List UInt8)) (x0_1 : Int) (x1 : (List UInt8)) (S : HS) : Option ((Int) × HS) :=
  (letv (HS.new S (.cells 2 [[(.str x0_0), (.int .i64 x0_1)]] true)) fun p1 =>
  (Option.bind (HS.ldS p1 (HA.fld (HA.cell0 S.next) 0)) fun p2 =>
  (Option.bind (fold_Compare.f k p2 x1) fun p3 =>
  some (p3, p1))))
theorem snd {k : Nat} {x0_0 : (List UInt8)} {x0_1 : Int} {x1 : (List UInt8)} {S : HS}  {p : (Int) × HS} (h : f k x0_0 x0_1 x1 S = some p) : HCall Try.prog base W0 β0 59 [(.agg [(.str x0_0), (.int .i64 x0_1)]), (.str x1)] S (fun v S1 => v = (.int .i64 p.1) ∧ S1 = p.2) := by
  unfold f at h
  refine HCall.of_run at_.at_ body ?_
  show HRun Try.prog base W0 β0 59 none [.code c0] ⟨[(.agg [(.str x0_0), (.int .i64 x0_1)]), (.str x1), .tup [], .tup [], .tup [], .tup [], .tup [], .tup [], .tup []], []⟩ S _
  refine q_seq e0 ?_
  refine q_region e1 rfl ?_
  obtain ⟨p1, hp1, h⟩ := leto h
  refine q_op (dst := some 2) rfl (fun _ ho => ok_box_e ho (.tmp rfl) (Nat.zero_lt_succ _) rfl hp1) ?_
  refine q_op (dst := some 4) rfl (fun _ ho => ok_assign ho (.int _ _)) ?_
  refine hr_region_end ?_
  try dsimp only [HAct.put, List.set_cons_zero, List.set_cons_succ]
  refine q_seq e2 ?_
  refine q_region e3 rfl ?_
  refine q_op (dst := some 5) rfl (fun _ ho => ok_fieldAddr_s ho fi90_0 (by decide) (.tmp rfl) rfl) ?_
  obtain ⟨p2, hp2, h⟩ := bindo h
  refine q_op (dst := some 6) rfl (fun _ ho => ok_load_s ho sc9 (.tmp rfl) rfl (ldS_out hp2)) ?_
  refine q_op (dst := some 7) rfl (fun _ ho => ok_move ho (.tmp rfl)) ?_
  obtain ⟨p3, hp3, h⟩ := bindo h
  refine q_call (dst := some 8) rfl (.func _) (.cons (.tmp rfl) (.cons (.tmp rfl) Evs.nil)) (HInv.static fold_Compare.at_ fold_Compare.body (fold_Compare.snd  hp3)) ?_
  rintro _ _ ⟨rfl, rfl⟩
  try dsimp only [HAct.put, List.set_cons_zero, List.set_cons_succ]
  refine q_op (dst := some 4) rfl (fun _ ho => ok_assign ho (.tmp rfl)) ?_
  refine hr_region_end ?_
  try dsimp only [HAct.put, List.set_cons_zero, List.set_cons_succ]
  cases h
  exact q_ret e4 at_.at_ rfl (res1 rfl rfl) ⟨rfl, rfl⟩
end
end book_Book_int_at_1
namespace book_Book_int_at
abbrev id : Nat := 41
theorem at_ : FnAt Try.prog 41 Try.f41 := ⟨Try.func41, by kernel_rfl⟩
noncomputable def c0 : Code := (Try.f41.body).getD .skip
noncomputable def c1 : Code := match c0 with | .seq x _ => x | _ => .skip
noncomputable def c2 : Code := match c0 with | .seq _ x => x | _ => .skip
noncomputable def c3 : Code := match c2 with | .seq x _ => x | _ => .skip
noncomputable def c4 : Code := match c3 with | .seq x _ => x | _ => .skip
noncomputable def c5 : Code := match c3 with | .seq _ x => x | _ => .skip
noncomputable def c6 : Code := match c5 with | .cond _ x _ => x | _ => .skip
noncomputable def c7 : Code := match c6 with | .seq x _ => x | _ => .skip
noncomputable def c8 : Code := match c6 with | .seq _ x => x | _ => .skip
noncomputable def c9 : Code := match c5 with | .cond _ _ x => x | _ => .skip
noncomputable def c10 : Code := match c2 with | .seq _ x => x | _ => .skip
noncomputable def c11 : Code := match c10 with | .seq x _ => x | _ => .skip
noncomputable def c12 : Code := match c10 with | .seq _ x => x | _ => .skip
theorem e0 : c0 = .seq c1 c2 := by kernel_rfl
noncomputable def r1 : Array Oper := match c1 with | .region _ x _ => x | _ => #[]
theorem e1 : c1 = .region 0 r1 false := by kernel_rfl
theorem e2 : c2 = .seq c3 c10 := by kernel_rfl
theorem e3 : c3 = .seq c4 c5 := by kernel_rfl
noncomputable def r4 : Array Oper := match c4 with | .region _ x _ => x | _ => #[]
theorem e4 : c4 = .region 1 r4 false := by kernel_rfl
theorem e5 : c5 = .cond (.tmp 7) c6 c9 := by kernel_rfl
theorem e6 : c6 = .seq c7 c8 := by kernel_rfl
noncomputable def r7 : Array Oper := match c7 with | .region _ x _ => x | _ => #[]
theorem e7 : c7 = .region 2 r7 false := by kernel_rfl
theorem e8 : c8 = .ret := by kernel_rfl
theorem e9 : c9 = .skip := by kernel_rfl
theorem e10 : c10 = .seq c11 c12 := by kernel_rfl
noncomputable def r11 : Array Oper := match c11 with | .region _ x _ => x | _ => #[]
theorem e11 : c11 = .region 3 r11 false := by kernel_rfl
theorem e12 : c12 = .ret := by kernel_rfl
theorem body : Try.f41.body = some c0 := by kernel_rfl
section
variable {base : Nat} {W0 : World} {β0 : Bt}
def f (D : Dp) (H : Hd) (k : Nat) (x0 : (Option HA)) (x1 : (List UInt8)) (S : HS) : Option ((Int × Bool) × HS) :=
  (if (Option.isNone x0) = true then
  some ((0, false), S) else
  (Option.bind (x0) fun p2 =>
  (Option.bind (HS.ldSl S (HA.fld p2 1)) fun p3 =>
  (Option.bind (slices_BinarySearchFunc_book_entry_int_book_entry_int_string.f D H k p3 x1 (HV.fn (.func 59) [] []) S) fun p4 =>
  some ((p4.1.1, p4.1.2), p4.2)))))
theorem snd {D : Dp} {H : Hd} {k : Nat} {x0 : (Option HA)} {x1 : (List UInt8)} {S : HS} (hD : DSound Try.prog base W0 D) (hH : HSound Try.prog base W0 β0 H)  {p : (Int × Bool) × HS} (h : f D H k x0 x1 S = some p) : HCall Try.prog base W0 β0 41 [(.ptr x0), (.str x1)] S (fun v S1 => v = (.tup [(.int .i64 p.1.1), (.bool p.1.2)]) ∧ S1 = p.2) := by
  unfold f at h
  refine HCall.of_run at_.at_ body ?_
  show HRun Try.prog base W0 β0 41 none [.code c0] ⟨[(.ptr x0), (.str x1), .tup [], .tup [], .tup [], .tup [], .tup [], .tup [], .tup [], .tup [], .tup [], .tup [], .tup [], .tup [], .tup [], .tup []], []⟩ S _
  refine q_seq e0 ?_
  refine q_region e1 rfl ?_
  refine q_op (dst := some 4) rfl (fun _ ho => ok_assign ho (.int _ _)) ?_
  refine q_op (dst := some 5) rfl (fun _ ho => ok_assign ho (.bool _)) ?_
  refine hr_region_end ?_
  try dsimp only [HAct.put, List.set_cons_zero, List.set_cons_succ]
  refine q_seq e2 ?_
  refine q_seq e3 ?_
  refine q_region e4 rfl ?_
  refine q_op (dst := some 6) rfl (fun _ ho => ok_move ho (.tmp rfl)) ?_
  refine q_op (dst := some 7) rfl (fun _ ho => ok_nil_ptr ho tu44 (.tmp rfl) (.inl ⟨rfl, rfl⟩)) ?_
  refine hr_region_end ?_
  try dsimp only [HAct.put, List.set_cons_zero, List.set_cons_succ]
  rcases ifc h with ⟨hc1, h⟩ | ⟨hc1, h⟩
  · refine q_cond_t e5 (.tmp rfl) hc1 ?_
    refine q_seq e6 ?_
    refine q_region e7 rfl ?_
    refine q_op (dst := some 4) rfl (fun _ ho => ok_assign ho (.int _ _)) ?_
    refine q_op (dst := some 5) rfl (fun _ ho => ok_assign ho (.bool _)) ?_
    refine hr_region_end ?_
    try dsimp only [HAct.put, List.set_cons_zero, List.set_cons_succ]
    cases h
    exact q_ret e8 at_.at_ rfl (res2 rfl rfl rfl) ⟨rfl, rfl⟩
  · refine q_cond_f e5 (.tmp rfl) (bfalse hc1) ?_
    refine q_skipc e9 ?_
    refine q_seq e10 ?_
    refine q_region e11 rfl ?_
    refine q_op (dst := some 8) rfl (fun _ ho => ok_move ho (.tmp rfl)) ?_
    obtain ⟨p2, hp2, h⟩ := bindo h
    refine q_op (dst := some 9) rfl (fun _ ho => ok_nilCheck_p ho (.tmp rfl) hp2) ?_
    refine q_op (dst := some 10) rfl (fun _ ho => ok_fieldAddr_s ho fi87_1 (by decide) (.tmp rfl) rfl) ?_
    obtain ⟨p3, hp3, h⟩ := bindo h
    refine q_op (dst := some 11) rfl (fun _ ho => ok_load_s ho sc85 (.tmp rfl) rfl (ldSl_out hp3)) ?_
    try dsimp only [HAct.put, List.set_cons_zero, List.set_cons_succ]
    refine q_op (dst := some 12) rfl (fun _ ho => ok_move ho (.tmp rfl)) ?_
    obtain ⟨p4, hp4, h⟩ := bindo h
    refine q_call (dst := some 13) rfl (.func _) (.cons (.tmp rfl) (.cons (.tmp rfl) (.cons (.func _) Evs.nil))) (HInv.static slices_BinarySearchFunc_book_entry_int_book_entry_int_string.at_ slices_BinarySearchFunc_book_entry_int_book_entry_int_string.body (slices_BinarySearchFunc_book_entry_int_book_entry_int_string.snd hD hH hp4)) ?_
    rintro _ _ ⟨rfl, rfl⟩
    refine q_op (dst := some 14) rfl (fun _ ho => ok_extract ho (.tmp rfl) rfl) ?_
    refine q_op (dst := some 15) rfl (fun _ ho => ok_extract ho (.tmp rfl) rfl) ?_
    try dsimp only [HAct.put, List.set_cons_zero, List.set_cons_succ]
    refine q_op (dst := some 4) rfl (fun _ ho => ok_assign ho (.tmp rfl)) ?_
    refine q_op (dst := some 5) rfl (fun _ ho => ok_assign ho (.tmp rfl)) ?_
    refine hr_region_end ?_
    try dsimp only [HAct.put, List.set_cons_zero, List.set_cons_succ]
    cases h
    exact q_ret e12 at_.at_ rfl (res2 rfl rfl rfl) ⟨rfl, rfl⟩
end
end book_Book_int_at
namespace slices_Reverse_book_entry_int_book_entry_int
abbrev id : Nat := 72
theorem at_ : FnAt Try.prog 72 Try.f72 := ⟨Try.func72, by kernel_rfl⟩
noncomputable def c0 : Code := (Try.f72.body).getD .skip
noncomputable def c1 : Code := match c0 with | .seq x _ => x | _ => .skip
noncomputable def c2 : Code := match c0 with | .seq _ x => x | _ => .skip
noncomputable def c3 : Code := match c2 with | .block _ x => x | _ => .skip
noncomputable def c4 : Code := match c3 with | .loop x => x | _ => .skip
noncomputable def c5 : Code := match c4 with | .seq x _ => x | _ => .skip
noncomputable def c6 : Code := match c5 with | .seq x _ => x | _ => .skip
noncomputable def c7 : Code := match c5 with | .seq _ x => x | _ => .skip
noncomputable def c8 : Code := match c7 with | .cond _ x _ => x | _ => .skip
noncomputable def c9 : Code := match c7 with | .cond _ _ x => x | _ => .skip
noncomputable def c10 : Code := match c4 with | .seq _ x => x | _ => .skip
noncomputable def c11 : Code := match c10 with | .seq x _ => x | _ => .skip
noncomputable def c12 : Code := match c11 with | .block _ x => x | _ => .skip
noncomputable def c13 : Code := match c10 with | .seq _ x => x | _ => .skip
theorem e0 : c0 = .seq c1 c2 := by kernel_rfl
noncomputable def r1 : Array Oper := match c1 with | .region _ x _ => x | _ => #[]
theorem e1 : c1 = .region 0 r1 false := by kernel_rfl
theorem e2 : c2 = .block 0 c3 := by kernel_rfl
theorem e3 : c3 = .loop c4 := by kernel_rfl
theorem e4 : c4 = .seq c5 c10 := by kernel_rfl
theorem e5 : c5 = .seq c6 c7 := by kernel_rfl
noncomputable def r6 : Array Oper := match c6 with | .region _ x _ => x | _ => #[]
theorem e6 : c6 = .region 1 r6 false := by kernel_rfl
theorem e7 : c7 = .cond (.tmp 9) c8 c9 := by kernel_rfl
theorem e8 : c8 = .skip := by kernel_rfl
theorem e9 : c9 = .exit 0 := by kernel_rfl
theorem e10 : c10 = .seq c11 c13 := by kernel_rfl
theorem e11 : c11 = .block 1 c12 := by kernel_rfl
noncomputable def r12 : Array Oper := match c12 with | .region _ x _ => x | _ => #[]
theorem e12 : c12 = .region 3 r12 true := by kernel_rfl
noncomputable def r13 : Array Oper := match c13 with | .region _ x _ => x | _ => #[]
theorem e13 : c13 = .region 2 r13 false := by kernel_rfl
theorem body : Try.f72.body = some c0 := by kernel_rfl
section
variable {base : Nat} {W0 : World} {β0 : Bt}
def L0 (k : Nat) : Nat → Sl → Int → Int → HS → Option ((Unit) × HS)
  | 0, _, _, _, _ => none
  | n + 1, y0, y2, y3, S =>
    (if y2 < y3 then
    (Option.bind (HS.idx S y0 y3 2) fun p2 =>
    (Option.bind (HS.ldS S (HA.fld p2 0)) fun p3 =>
    (Option.bind (HS.ldI S .i64 (HA.fld p2 1)) fun p4 =>
    (Option.bind (HS.idx S y0 y2 2) fun p5 =>
    (Option.bind (HS.ldS S (HA.fld p5 0)) fun p6 =>
    (Option.bind (HS.ldI S .i64 (HA.fld p5 1)) fun p7 =>
    (Option.bind (HS.idx S y0 y2 2) fun p8 =>
    (Option.bind (HS.sets S p8 [(.str p3), (.int .i64 p4)]) fun p9 =>
    (Option.bind (HS.idx p9 y0 y3 2) fun p10 =>
    (Option.bind (HS.sets p9 p10 [(.str p6), (.int .i64 p7)]) fun p11 =>
    (L0 k n) y0 (w64 (y2 + 1)) (w64 (y3 - 1)) p11)))))))))) else
    some ((), S))
theorem L0_snd {k : Nat}  : ∀ {n : Nat} ⦃y0 : Sl⦄ ⦃y2 : Int⦄ ⦃y3 : Int⦄ ⦃S : HS⦄ ⦃p : (Unit) × HS⦄ ⦃g1 g4 g5 g6 g7 g8 g9 g10 g11 g12 g13 g14 g15 g16 g17 g18 g19 g20 g21 g22 g23 g24 g25 g26 g27 : HV⦄, L0 k n y0 y2 y3 S = some p → HRun Try.prog base W0 β0 72 none [.inLoop c4, .inBlock 0] ⟨[(Sl.hv y0), g1, (.int .i64 y2), (.int .i64 y3), g4, g5, g6, g7, g8, g9, g10, g11, g12, g13, g14, g15, g16, g17, g18, g19, g20, g21, g22, g23, g24, g25, g26, g27], []⟩ S (fun v S1 => v = (.tup []) ∧ S1 = p.2) := by
  intro n
  induction n with
  | zero => intro _ _ _ _ _ _ _ _ _ _ _ _ _ _ _ _ _ _ _ _ _ _ _ _ _ _ _ _ _ _ h; cases h
  | succ n ih =>
    intro y0 y2 y3 S p g1 g4 g5 g6 g7 g8 g9 g10 g11 g12 g13 g14 g15 g16 g17 g18 g19 g20 g21 g22 g23 g24 g25 g26 g27 h
    simp only [L0] at h
    refine hr_inLoop ?_
    refine q_seq e4 ?_
    refine q_seq e5 ?_
    refine q_region e6 rfl ?_
    refine q_op (dst := some 7) rfl (fun _ ho => ok_move ho (.tmp rfl)) ?_
    refine q_op (dst := some 8) rfl (fun _ ho => ok_move ho (.tmp rfl)) ?_
    refine q_op (dst := some 9) rfl (fun _ ho => ok_ibin ho (.tmp rfl) (.tmp rfl) rfl) ?_
    refine hr_region_end ?_
    try dsimp only [HAct.put, List.set_cons_zero, List.set_cons_succ]
    rcases ifc h with ⟨hc1, h⟩ | ⟨hc1, h⟩
    · refine q_cond_t e7 (.tmp rfl) (decide_eq_true hc1) ?_
      refine q_skipc e8 ?_
      refine q_seq e10 ?_
      refine q_block e11 ?_
      refine x_start (cls := [0, 0, 0, 0, 0, 0, 1, 1, 0, 0, 1, 1, 1, 2, 1, 2]) (rk := [0, 1, 12, 13, 2, 3, 4, 5, 6, 7, 8, 9, 10, 11, 14, 15]) e12 (by kernel_rfl) ?_
      refine x_go (f_op (dst := some 14) (ts := [0]) rfl (by intro _ _ h; cases h) (by kernel_rfl) (fun _ _ ho => ok_move ho (.tmp rfl))) rfl ?_
      refine x_go (f_op (dst := some 15) (ts := [2]) rfl (by intro _ _ h; cases h) (by kernel_rfl) (fun _ _ ho => ok_move ho (.tmp rfl))) rfl ?_
      refine x_go (f_op (dst := some 16) (ts := [0]) rfl (by intro _ _ h; cases h) (by kernel_rfl) (fun _ _ ho => ok_move ho (.tmp rfl))) rfl ?_
      refine x_go (f_op (dst := some 17) (ts := [3]) rfl (by intro _ _ h; cases h) (by kernel_rfl) (fun _ _ ho => ok_move ho (.tmp rfl))) rfl ?_
      try dsimp only [HAct.put, List.set_cons_zero, List.set_cons_succ]
      refine x_go (f_op (dst := some 18) (ts := [0]) rfl (by intro _ _ h; cases h) (by kernel_rfl) (fun _ _ ho => ok_move ho (.tmp rfl))) rfl ?_
      refine x_go (f_op (dst := some 19) (ts := [3]) rfl (by intro _ _ h; cases h) (by kernel_rfl) (fun _ _ ho => ok_move ho (.tmp rfl))) rfl ?_
      obtain ⟨p2, hp2, h⟩ := bindo h
      refine x_go (r_op (dst := some 20) (ts := [18, 19]) rfl (by intro _ _ h; cases h) (by kernel_rfl) (fun _ ho => ok_indexAddr (s := y0) ho tu85 sz90 (.tmp rfl) (.tmp rfl) hp2)) rfl ?_
      obtain ⟨p3, hp3, h⟩ := bindo h
      obtain ⟨p4, hp4, h⟩ := bindo h
      refine x_go (r_op (dst := some 21) (ts := [20]) rfl (by intro _ _ h; cases h) (by kernel_rfl) (fun _ ho => ok_load_a (vs := [(.str p3), (.int .i64 p4)]) ho ia90 (.tmp rfl) rfl ⟨ldS_out hp3, ldI_out hp4, trivial⟩ (by simp))) rfl ?_
      try dsimp only [HAct.put, List.set_cons_zero, List.set_cons_succ]
      refine x_go (f_op (dst := some 22) (ts := [0]) rfl (by intro _ _ h; cases h) (by kernel_rfl) (fun _ _ ho => ok_move ho (.tmp rfl))) rfl ?_
      refine x_go (f_op (dst := some 23) (ts := [2]) rfl (by intro _ _ h; cases h) (by kernel_rfl) (fun _ _ ho => ok_move ho (.tmp rfl))) rfl ?_
      obtain ⟨p5, hp5, h⟩ := bindo h
      refine x_go (r_op (dst := some 24) (ts := [22, 23]) rfl (by intro _ _ h; cases h) (by kernel_rfl) (fun _ ho => ok_indexAddr (s := y0) ho tu85 sz90 (.tmp rfl) (.tmp rfl) hp5)) rfl ?_
      obtain ⟨p6, hp6, h⟩ := bindo h
      obtain ⟨p7, hp7, h⟩ := bindo h
      refine x_go (r_op (dst := some 25) (ts := [24]) rfl (by intro _ _ h; cases h) (by kernel_rfl) (fun _ ho => ok_load_a (vs := [(.str p6), (.int .i64 p7)]) ho ia90 (.tmp rfl) rfl ⟨ldS_out hp6, ldI_out hp7, trivial⟩ (by simp))) rfl ?_
      try dsimp only [HAct.put, List.set_cons_zero, List.set_cons_succ]
      obtain ⟨p8, hp8, h⟩ := bindo h
      refine x_go (r_op (dst := some 26) (ts := [14, 15]) rfl (by intro _ _ h; cases h) (by kernel_rfl) (fun _ ho => ok_indexAddr (s := y0) ho tu85 sz90 (.tmp rfl) (.tmp rfl) hp8)) rfl ?_
      obtain ⟨p9, hp9, h⟩ := bindo h
      refine x_go (e_op (dst := none) (ts := [26, 21]) rfl (by intro _ _ h; cases h) (by kernel_rfl) (fun _ ho => ok_store_s (v := (.agg [(.str p3), (.int .i64 p4)])) ho sz90 (.tmp rfl) rfl (.tmp rfl) rfl hp9)) rfl ?_
      obtain ⟨p10, hp10, h⟩ := bindo h
      refine x_go (r_op (dst := some 27) (ts := [16, 17]) rfl (by intro _ _ h; cases h) (by kernel_rfl) (fun _ ho => ok_indexAddr (s := y0) ho tu85 sz90 (.tmp rfl) (.tmp rfl) hp10)) rfl ?_
      obtain ⟨p11, hp11, h⟩ := bindo h
      refine x_go (e_op (dst := none) (ts := [27, 25]) rfl (by intro _ _ h; cases h) (by kernel_rfl) (fun _ ho => ok_store_s (v := (.agg [(.str p6), (.int .i64 p7)])) ho sz90 (.tmp rfl) rfl (.tmp rfl) rfl hp11)) rfl ?_
      refine x_rest rfl ?_
      refine hr_region_end ?_
      try dsimp only [HAct.put, List.set_cons_zero, List.set_cons_succ]
      refine hr_inBlock ?_
      refine q_region e13 rfl ?_
      refine q_op (dst := some 10) rfl (fun _ ho => ok_move ho (.tmp rfl)) ?_
      refine q_op (dst := some 11) rfl (fun _ ho => ok_ibin ho (.tmp rfl) (.int _ _) rfl) ?_
      refine q_op (dst := some 12) rfl (fun _ ho => ok_move ho (.tmp rfl)) ?_
      refine q_op (dst := some 13) rfl (fun _ ho => ok_ibin ho (.tmp rfl) (.int _ _) rfl) ?_
      try dsimp only [HAct.put, List.set_cons_zero, List.set_cons_succ]
      refine q_op (dst := some 2) rfl (fun _ ho => ok_assign ho (.tmp rfl)) ?_
      refine q_op (dst := some 3) rfl (fun _ ho => ok_assign ho (.tmp rfl)) ?_
      refine hr_region_end ?_
      try dsimp only [HAct.put, List.set_cons_zero, List.set_cons_succ]
      try dsimp only [HAct.put, List.set_cons_zero, List.set_cons_succ]
      exact ih h
    · refine q_cond_f e7 (.tmp rfl) (decide_eq_false hc1) ?_
      refine q_exit e9 rfl ?_
      cases h
      exact q_end at_.at_ rfl (res0 rfl) ⟨rfl, rfl⟩
def f (k : Nat) (x0 : Sl) (S : HS) : Option ((Unit) × HS) :=
  L0 k k x0 0 (w64 ((Sl.len x0 : Int) - 1)) S
theorem snd {k : Nat} {x0 : Sl} {S : HS}  {p : (Unit) × HS} (h : f k x0 S = some p) : HCall Try.prog base W0 β0 72 [(Sl.hv x0)] S (fun v S1 => v = (.tup []) ∧ S1 = p.2) := by
  unfold f at h
  refine HCall.of_run at_.at_ body ?_
  show HRun Try.prog base W0 β0 72 none [.code c0] ⟨[(Sl.hv x0), .tup [], .tup [], .tup [], .tup [], .tup [], .tup [], .tup [], .tup [], .tup [], .tup [], .tup [], .tup [], .tup [], .tup [], .tup [], .tup [], .tup [], .tup [], .tup [], .tup [], .tup [], .tup [], .tup [], .tup [], .tup [], .tup [], .tup []], []⟩ S _
  refine q_seq e0 ?_
  refine q_region e1 rfl ?_
  refine q_op (dst := some 4) rfl (fun _ ho => ok_move ho (.tmp rfl)) ?_
  refine q_op (dst := some 5) rfl (fun _ ho => ok_len_sl (q := Sl.a x0) (n := Sl.len x0) (z := Sl.cap x0) ho rfl tu85 (.tmp rfl)) ?_
  refine q_op (dst := some 6) rfl (fun _ ho => ok_ibin ho (.tmp rfl) (.int _ _) rfl) ?_
  refine q_op (dst := some 2) rfl (fun _ ho => ok_assign ho (.int _ _)) ?_
  try dsimp only [HAct.put, List.set_cons_zero, List.set_cons_succ]
  refine q_op (dst := some 3) rfl (fun _ ho => ok_assign ho (.tmp rfl)) ?_
  refine hr_region_end ?_
  try dsimp only [HAct.put, List.set_cons_zero, List.set_cons_succ]
  refine q_block e2 ?_
  refine q_loop e3 ?_
  try dsimp only [HAct.put, List.set_cons_zero, List.set_cons_succ]
  exact L0_snd  h
end
end slices_Reverse_book_entry_int_book_entry_int
namespace slices_rotateLeft_book_entry_int
abbrev id : Nat := 68
theorem at_ : FnAt Try.prog 68 Try.f68 := ⟨Try.func68, by kernel_rfl⟩
noncomputable def c0 : Code := (Try.f68.body).getD .skip
noncomputable def c1 : Code := match c0 with | .seq x _ => x | _ => .skip
noncomputable def c2 : Code := match c0 with | .seq _ x => x | _ => .skip
noncomputable def c3 : Code := match c2 with | .seq x _ => x | _ => .skip
noncomputable def c4 : Code := match c2 with | .seq _ x => x | _ => .skip
theorem e0 : c0 = .seq c1 c2 := by kernel_rfl
noncomputable def r1 : Array Oper := match c1 with | .region _ x _ => x | _ => #[]
theorem e1 : c1 = .region 0 r1 false := by kernel_rfl
theorem e2 : c2 = .seq c3 c4 := by kernel_rfl
noncomputable def r3 : Array Oper := match c3 with | .region _ x _ => x | _ => #[]
theorem e3 : c3 = .region 1 r3 false := by kernel_rfl
noncomputable def r4 : Array Oper := match c4 with | .region _ x _ => x | _ => #[]
theorem e4 : c4 = .region 2 r4 false := by kernel_rfl
theorem body : Try.f68.body = some c0 := by kernel_rfl
section
variable {base : Nat} {W0 : World} {β0 : Bt}
def f (k : Nat) (x0 : Sl) (x1 : Int) (S : HS) : Option ((Unit) × HS) :=
  (Option.bind (HS.cut S x0 0 x1 2) fun p1 =>
  (Option.bind (slices_Reverse_book_entry_int_book_entry_int.f k p1 S) fun p2 =>
  (Option.bind (HS.cut p2.2 x0 x1 (Sl.len x0 : Int) 2) fun p3 =>
  (Option.bind (slices_Reverse_book_entry_int_book_entry_int.f k p3 p2.2) fun p4 =>
  (Option.bind (slices_Reverse_book_entry_int_book_entry_int.f k x0 p4.2) fun p5 =>
  some ((), p5.2))))))
theorem snd {k : Nat} {x0 : Sl} {x1 : Int} {S : HS}  {p : (Unit) × HS} (h : f k x0 x1 S = some p) : HCall Try.prog base W0 β0 68 [(Sl.hv x0), (.int .i64 x1)] S (fun v S1 => v = (.tup []) ∧ S1 = p.2) := by
  unfold f at h
  refine HCall.of_run at_.at_ body ?_
  show HRun Try.prog base W0 β0 68 none [.code c0] ⟨[(Sl.hv x0), (.int .i64 x1), .tup [], .tup [], .tup [], .tup [], .tup [], .tup [], .tup [], .tup [], .tup [], .tup [], .tup [], .tup []], []⟩ S _
  refine q_seq e0 ?_
  refine q_region e1 rfl ?_
  refine q_op (dst := some 4) rfl (fun _ ho => ok_move ho (.tmp rfl)) ?_
  refine q_op (dst := some 5) rfl (fun _ ho => ok_move ho (.tmp rfl)) ?_
  obtain ⟨p1, hp1, h⟩ := bindo h
  refine q_op (dst := some 6) rfl (fun _ ho => ok_slice (kl := .i64) (kh := .i64) (s := x0) (l := 0) (h := x1) ho tu85 si90 (.tmp rfl) (.inl ⟨rfl, rfl⟩) (.inr ⟨_, rfl, (.tmp rfl)⟩) hp1) ?_
  obtain ⟨p2, hp2, h⟩ := bindo h
  refine q_call (dst := some 7) rfl (.func _) (.cons (.tmp rfl) Evs.nil) (HInv.static slices_Reverse_book_entry_int_book_entry_int.at_ slices_Reverse_book_entry_int_book_entry_int.body (slices_Reverse_book_entry_int_book_entry_int.snd  hp2)) ?_
  rintro _ _ ⟨rfl, rfl⟩
  refine hr_region_end ?_
  try dsimp only [HAct.put, List.set_cons_zero, List.set_cons_succ]
  refine q_seq e2 ?_
  refine q_region e3 rfl ?_
  refine q_op (dst := some 8) rfl (fun _ ho => ok_move ho (.tmp rfl)) ?_
  refine q_op (dst := some 9) rfl (fun _ ho => ok_move ho (.tmp rfl)) ?_
  obtain ⟨p3, hp3, h⟩ := bindo h
  refine q_op (dst := some 10) rfl (fun _ ho => ok_slice (kl := .i64) (kh := .i64) (s := x0) (l := x1) (h := (Sl.len x0 : Int)) ho tu85 si90 (.tmp rfl) (.inr ⟨_, rfl, (.tmp rfl)⟩) (.inl ⟨rfl, rfl⟩) hp3) ?_
  obtain ⟨p4, hp4, h⟩ := bindo h
  refine q_call (dst := some 11) rfl (.func _) (.cons (.tmp rfl) Evs.nil) (HInv.static slices_Reverse_book_entry_int_book_entry_int.at_ slices_Reverse_book_entry_int_book_entry_int.body (slices_Reverse_book_entry_int_book_entry_int.snd  hp4)) ?_
  rintro _ _ ⟨rfl, rfl⟩
  refine hr_region_end ?_
  try dsimp only [HAct.put, List.set_cons_zero, List.set_cons_succ]
  refine q_region e4 rfl ?_
  refine q_op (dst := some 12) rfl (fun _ ho => ok_move ho (.tmp rfl)) ?_
  obtain ⟨p5, hp5, h⟩ := bindo h
  refine q_call (dst := some 13) rfl (.func _) (.cons (.tmp rfl) Evs.nil) (HInv.static slices_Reverse_book_entry_int_book_entry_int.at_ slices_Reverse_book_entry_int_book_entry_int.body (slices_Reverse_book_entry_int_book_entry_int.snd  hp5)) ?_
  rintro _ _ ⟨rfl, rfl⟩
  refine hr_region_end ?_
  try dsimp only [HAct.put, List.set_cons_zero, List.set_cons_succ]
  cases h
  exact q_end at_.at_ rfl (res0 rfl) ⟨rfl, rfl⟩
end
end slices_rotateLeft_book_entry_int
namespace slices_rotateRight_book_entry_int
abbrev id : Nat := 61
theorem at_ : FnAt Try.prog 61 Try.f61 := ⟨Try.func61, by kernel_rfl⟩
noncomputable def c0 : Code := (Try.f61.body).getD .skip
noncomputable def r0 : Array Oper := match c0 with | .region _ x _ => x | _ => #[]
theorem e0 : c0 = .region 0 r0 false := by kernel_rfl
theorem body : Try.f61.body = some c0 := by kernel_rfl
section
variable {base : Nat} {W0 : World} {β0 : Bt}
def f (k : Nat) (x0 : Sl) (x1 : Int) (S : HS) : Option ((Unit) × HS) :=
  (Option.bind (slices_rotateLeft_book_entry_int.f k x0 (w64 ((Sl.len x0 : Int) - x1)) S) fun p1 =>
  some ((), p1.2))
theorem snd {k : Nat} {x0 : Sl} {x1 : Int} {S : HS}  {p : (Unit) × HS} (h : f k x0 x1 S = some p) : HCall Try.prog base W0 β0 61 [(Sl.hv x0), (.int .i64 x1)] S (fun v S1 => v = (.tup []) ∧ S1 = p.2) := by
  unfold f at h
  refine HCall.of_run at_.at_ body ?_
  show HRun Try.prog base W0 β0 61 none [.code c0] ⟨[(Sl.hv x0), (.int .i64 x1), .tup [], .tup [], .tup [], .tup [], .tup [], .tup [], .tup [], .tup []], []⟩ S _
  refine q_region e0 rfl ?_
  refine q_op (dst := some 4) rfl (fun _ ho => ok_move ho (.tmp rfl)) ?_
  refine q_op (dst := some 5) rfl (fun _ ho => ok_move ho (.tmp rfl)) ?_
  refine q_op (dst := some 6) rfl (fun _ ho => ok_len_sl (q := Sl.a x0) (n := Sl.len x0) (z := Sl.cap x0) ho rfl tu85 (.tmp rfl)) ?_
  refine q_op (dst := some 7) rfl (fun _ ho => ok_move ho (.tmp rfl)) ?_
  try dsimp only [HAct.put, List.set_cons_zero, List.set_cons_succ]
  refine q_op (dst := some 8) rfl (fun _ ho => ok_ibin ho (.tmp rfl) (.tmp rfl) rfl) ?_
  obtain ⟨p1, hp1, h⟩ := bindo h
  refine q_call (dst := some 9) rfl (.func _) (.cons (.tmp rfl) (.cons (.tmp rfl) Evs.nil)) (HInv.static slices_rotateLeft_book_entry_int.at_ slices_rotateLeft_book_entry_int.body (slices_rotateLeft_book_entry_int.snd  hp1)) ?_
  rintro _ _ ⟨rfl, rfl⟩
  refine hr_region_end ?_
  try dsimp only [HAct.put, List.set_cons_zero, List.set_cons_succ]
  cases h
  exact q_end at_.at_ rfl (res0 rfl) ⟨rfl, rfl⟩
end
end slices_rotateRight_book_entry_int
namespace slices_Insert_book_entry_int_book_entry_int
abbrev id : Nat := 43
theorem at_ : FnAt Try.prog 43 Try.f43 := ⟨Try.func43, by kernel_rfl⟩
noncomputable def c0 : Code := (Try.f43.body).getD .skip
noncomputable def c1 : Code := match c0 with | .seq x _ => x | _ => .skip
noncomputable def c2 : Code := match c0 with | .seq _ x => x | _ => .skip
noncomputable def c3 : Code := match c2 with | .seq x _ => x | _ => .skip
noncomputable def c4 : Code := match c2 with | .seq _ x => x | _ => .skip
noncomputable def c5 : Code := match c4 with | .seq x _ => x | _ => .skip
noncomputable def c6 : Code := match c4 with | .seq _ x => x | _ => .skip
noncomputable def c7 : Code := match c6 with | .seq x _ => x | _ => .skip
noncomputable def c8 : Code := match c7 with | .seq x _ => x | _ => .skip
noncomputable def c9 : Code := match c7 with | .seq _ x => x | _ => .skip
noncomputable def c10 : Code := match c9 with | .cond _ x _ => x | _ => .skip
noncomputable def c11 : Code := match c10 with | .seq x _ => x | _ => .skip
noncomputable def c12 : Code := match c10 with | .seq _ x => x | _ => .skip
noncomputable def c13 : Code := match c9 with | .cond _ _ x => x | _ => .skip
noncomputable def c14 : Code := match c6 with | .seq _ x => x | _ => .skip
noncomputable def c15 : Code := match c14 with | .seq x _ => x | _ => .skip
noncomputable def c16 : Code := match c14 with | .seq _ x => x | _ => .skip
noncomputable def c17 : Code := match c16 with | .seq x _ => x | _ => .skip
noncomputable def c18 : Code := match c17 with | .seq x _ => x | _ => .skip
noncomputable def c19 : Code := match c17 with | .seq _ x => x | _ => .skip
noncomputable def c20 : Code := match c19 with | .cond _ x _ => x | _ => .skip
noncomputable def c21 : Code := match c20 with | .seq x _ => x | _ => .skip
noncomputable def c22 : Code := match c20 with | .seq _ x => x | _ => .skip
noncomputable def c23 : Code := match c19 with | .cond _ _ x => x | _ => .skip
noncomputable def c24 : Code := match c16 with | .seq _ x => x | _ => .skip
noncomputable def c25 : Code := match c24 with | .seq x _ => x | _ => .skip
noncomputable def c26 : Code := match c25 with | .seq x _ => x | _ => .skip
noncomputable def c27 : Code := match c25 with | .seq _ x => x | _ => .skip
noncomputable def c28 : Code := match c27 with | .cond _ x _ => x | _ => .skip
noncomputable def c29 : Code := match c28 with | .seq x _ => x | _ => .skip
noncomputable def c30 : Code := match c28 with | .seq _ x => x | _ => .skip
noncomputable def c31 : Code := match c30 with | .seq x _ => x | _ => .skip
noncomputable def c32 : Code := match c30 with | .seq _ x => x | _ => .skip
noncomputable def c33 : Code := match c32 with | .seq x _ => x | _ => .skip
noncomputable def c34 : Code := match c32 with | .seq _ x => x | _ => .skip
noncomputable def c35 : Code := match c34 with | .seq x _ => x | _ => .skip
noncomputable def c36 : Code := match c34 with | .seq _ x => x | _ => .skip
noncomputable def c37 : Code := match c27 with | .cond _ _ x => x | _ => .skip
noncomputable def c38 : Code := match c24 with | .seq _ x => x | _ => .skip
noncomputable def c39 : Code := match c38 with | .seq x _ => x | _ => .skip
noncomputable def c40 : Code := match c38 with | .seq _ x => x | _ => .skip
noncomputable def c41 : Code := match c40 with | .seq x _ => x | _ => .skip
noncomputable def c42 : Code := match c41 with | .seq x _ => x | _ => .skip
noncomputable def c43 : Code := match c41 with | .seq _ x => x | _ => .skip
noncomputable def c44 : Code := match c43 with | .cond _ x _ => x | _ => .skip
noncomputable def c45 : Code := match c44 with | .seq x _ => x | _ => .skip
noncomputable def c46 : Code := match c44 with | .seq _ x => x | _ => .skip
noncomputable def c47 : Code := match c46 with | .seq x _ => x | _ => .skip
noncomputable def c48 : Code := match c46 with | .seq _ x => x | _ => .skip
noncomputable def c49 : Code := match c48 with | .seq x _ => x | _ => .skip
noncomputable def c50 : Code := match c48 with | .seq _ x => x | _ => .skip
noncomputable def c51 : Code := match c43 with | .cond _ _ x => x | _ => .skip
noncomputable def c52 : Code := match c40 with | .seq _ x => x | _ => .skip
noncomputable def c53 : Code := match c52 with | .seq x _ => x | _ => .skip
noncomputable def c54 : Code := match c52 with | .seq _ x => x | _ => .skip
noncomputable def c55 : Code := match c54 with | .seq x _ => x | _ => .skip
noncomputable def c56 : Code := match c54 with | .seq _ x => x | _ => .skip
noncomputable def c57 : Code := match c56 with | .seq x _ => x | _ => .skip
noncomputable def c58 : Code := match c56 with | .seq _ x => x | _ => .skip
theorem e0 : c0 = .seq c1 c2 := by kernel_rfl
noncomputable def r1 : Array Oper := match c1 with | .region _ x _ => x | _ => #[]
theorem e1 : c1 = .region 0 r1 false := by kernel_rfl
theorem e2 : c2 = .seq c3 c4 := by kernel_rfl
noncomputable def r3 : Array Oper := match c3 with | .region _ x _ => x | _ => #[]
theorem e3 : c3 = .region 1 r3 false := by kernel_rfl
theorem e4 : c4 = .seq c5 c6 := by kernel_rfl
noncomputable def r5 : Array Oper := match c5 with | .region _ x _ => x | _ => #[]
theorem e5 : c5 = .region 2 r5 false := by kernel_rfl
theorem e6 : c6 = .seq c7 c14 := by kernel_rfl
theorem e7 : c7 = .seq c8 c9 := by kernel_rfl
noncomputable def r8 : Array Oper := match c8 with | .region _ x _ => x | _ => #[]
theorem e8 : c8 = .region 3 r8 false := by kernel_rfl
theorem e9 : c9 = .cond (.tmp 16) c10 c13 := by kernel_rfl
theorem e10 : c10 = .seq c11 c12 := by kernel_rfl
noncomputable def r11 : Array Oper := match c11 with | .region _ x _ => x | _ => #[]
theorem e11 : c11 = .region 4 r11 false := by kernel_rfl
theorem e12 : c12 = .ret := by kernel_rfl
theorem e13 : c13 = .skip := by kernel_rfl
theorem e14 : c14 = .seq c15 c16 := by kernel_rfl
noncomputable def r15 : Array Oper := match c15 with | .region _ x _ => x | _ => #[]
theorem e15 : c15 = .region 5 r15 false := by kernel_rfl
theorem e16 : c16 = .seq c17 c24 := by kernel_rfl
theorem e17 : c17 = .seq c18 c19 := by kernel_rfl
noncomputable def r18 : Array Oper := match c18 with | .region _ x _ => x | _ => #[]
theorem e18 : c18 = .region 6 r18 false := by kernel_rfl
theorem e19 : c19 = .cond (.tmp 22) c20 c23 := by kernel_rfl
theorem e20 : c20 = .seq c21 c22 := by kernel_rfl
noncomputable def r21 : Array Oper := match c21 with | .region _ x _ => x | _ => #[]
theorem e21 : c21 = .region 7 r21 false := by kernel_rfl
theorem e22 : c22 = .ret := by kernel_rfl
theorem e23 : c23 = .skip := by kernel_rfl
theorem e24 : c24 = .seq c25 c38 := by kernel_rfl
theorem e25 : c25 = .seq c26 c27 := by kernel_rfl
noncomputable def r26 : Array Oper := match c26 with | .region _ x _ => x | _ => #[]
theorem e26 : c26 = .region 8 r26 false := by kernel_rfl
theorem e27 : c27 = .cond (.tmp 31) c28 c37 := by kernel_rfl
theorem e28 : c28 = .seq c29 c30 := by kernel_rfl
noncomputable def r29 : Array Oper := match c29 with | .region _ x _ => x | _ => #[]
theorem e29 : c29 = .region 9 r29 false := by kernel_rfl
theorem e30 : c30 = .seq c31 c32 := by kernel_rfl
noncomputable def r31 : Array Oper := match c31 with | .region _ x _ => x | _ => #[]
theorem e31 : c31 = .region 10 r31 false := by kernel_rfl
theorem e32 : c32 = .seq c33 c34 := by kernel_rfl
noncomputable def r33 : Array Oper := match c33 with | .region _ x _ => x | _ => #[]
theorem e33 : c33 = .region 11 r33 true := by kernel_rfl
theorem e34 : c34 = .seq c35 c36 := by kernel_rfl
noncomputable def r35 : Array Oper := match c35 with | .region _ x _ => x | _ => #[]
theorem e35 : c35 = .region 12 r35 false := by kernel_rfl
theorem e36 : c36 = .ret := by kernel_rfl
theorem e37 : c37 = .skip := by kernel_rfl
theorem e38 : c38 = .seq c39 c40 := by kernel_rfl
noncomputable def r39 : Array Oper := match c39 with | .region _ x _ => x | _ => #[]
theorem e39 : c39 = .region 13 r39 false := by kernel_rfl
theorem e40 : c40 = .seq c41 c52 := by kernel_rfl
theorem e41 : c41 = .seq c42 c43 := by kernel_rfl
noncomputable def r42 : Array Oper := match c42 with | .region _ x _ => x | _ => #[]
theorem e42 : c42 = .region 14 r42 false := by kernel_rfl
theorem e43 : c43 = .cond (.tmp 68) c44 c51 := by kernel_rfl
theorem e44 : c44 = .seq c45 c46 := by kernel_rfl
noncomputable def r45 : Array Oper := match c45 with | .region _ x _ => x | _ => #[]
theorem e45 : c45 = .region 15 r45 true := by kernel_rfl
theorem e46 : c46 = .seq c47 c48 := by kernel_rfl
noncomputable def r47 : Array Oper := match c47 with | .region _ x _ => x | _ => #[]
theorem e47 : c47 = .region 16 r47 false := by kernel_rfl
theorem e48 : c48 = .seq c49 c50 := by kernel_rfl
noncomputable def r49 : Array Oper := match c49 with | .region _ x _ => x | _ => #[]
theorem e49 : c49 = .region 17 r49 false := by kernel_rfl
theorem e50 : c50 = .ret := by kernel_rfl
theorem e51 : c51 = .skip := by kernel_rfl
theorem e52 : c52 = .seq c53 c54 := by kernel_rfl
noncomputable def r53 : Array Oper := match c53 with | .region _ x _ => x | _ => #[]
theorem e53 : c53 = .region 18 r53 false := by kernel_rfl
theorem e54 : c54 = .seq c55 c56 := by kernel_rfl
noncomputable def r55 : Array Oper := match c55 with | .region _ x _ => x | _ => #[]
theorem e55 : c55 = .region 19 r55 false := by kernel_rfl
theorem e56 : c56 = .seq c57 c58 := by kernel_rfl
noncomputable def r57 : Array Oper := match c57 with | .region _ x _ => x | _ => #[]
theorem e57 : c57 = .region 20 r57 false := by kernel_rfl
theorem e58 : c58 = .ret := by kernel_rfl
theorem body : Try.f43.body = some c0 := by kernel_rfl
section
variable {base : Nat} {W0 : World} {β0 : Bt}
def f (k : Nat) (x0 : Sl) (x1 : Int) (x2 : Sl) (S : HS) : Option ((Sl) × HS) :=
  (Option.bind (HS.cut S x0 x1 (Sl.len x0 : Int) 2) fun p1 =>
  (if (Sl.len x2 : Int) = 0 then
  some (x0, S) else
  (if x1 = (Sl.len x0 : Int) then
  (Option.bind (HS.rows S x2 2) fun p4 =>
  (Option.bind (HS.app S x0 p4 2) fun p5 =>
  some ((p5.1), (p5.2)))) else
  (Option.bind (Sl.capOf x0) fun p6 =>
  (if (w64 ((Sl.len x0 : Int) + (Sl.len x2 : Int))) > p6 then
  (Option.bind (HS.cut S x0 0 x1 2) fun p8 =>
  (Option.bind (HS.appZ S p8 (w64 ((w64 ((Sl.len x0 : Int) + (Sl.len x2 : Int))) - x1)) [(.str []), (.int .i64 0)] 2) fun p9 =>
  (Option.bind (HS.cut (p9.2) (p9.1) x1 (Sl.len (p9.1) : Int) 2) fun p10 =>
  (Option.bind (HS.rows (p9.2) x2 2) fun p11 =>
  (Option.bind (HS.over (p9.2) p10 (List.take (Sl.len p10) p11) 2) fun p12 =>
  (Option.bind (HS.cut p12 (p9.1) (w64 (x1 + (Sl.len x2 : Int))) (Sl.len (p9.1) : Int) 2) fun p13 =>
  (Option.bind (HS.cut p12 x0 x1 (Sl.len x0 : Int) 2) fun p14 =>
  (Option.bind (HS.rows p12 p14 2) fun p15 =>
  (Option.bind (HS.over p12 p13 (List.take (Sl.len p13) p15) 2) fun p16 =>
  some ((p9.1), p16)))))))))) else
  (Option.bind (HS.cut S x0 0 (w64 ((Sl.len x0 : Int) + (Sl.len x2 : Int))) 2) fun p17 =>
  (Option.bind (HS.cut S p17 (w64 (x1 + (Sl.len x2 : Int))) (Sl.len p17 : Int) 2) fun p18 =>
  (Option.bind (HS.ovl S x2 p18) fun p19 =>
  (if (!p19) = true then
  (Option.bind (HS.cut S p17 (w64 (x1 + (Sl.len x2 : Int))) (Sl.len p17 : Int) 2) fun p21 =>
  (Option.bind (HS.cut S p17 x1 (Sl.len p17 : Int) 2) fun p22 =>
  (Option.bind (HS.rows S p22 2) fun p23 =>
  (Option.bind (HS.over S p21 (List.take (Sl.len p21) p23) 2) fun p24 =>
  (Option.bind (HS.cut p24 p17 x1 (Sl.len p17 : Int) 2) fun p25 =>
  (Option.bind (HS.rows p24 x2 2) fun p26 =>
  (Option.bind (HS.over p24 p25 (List.take (Sl.len p25) p26) 2) fun p27 =>
  some (p17, p27)))))))) else
  (Option.bind (HS.cut S p17 (Sl.len x0 : Int) (Sl.len p17 : Int) 2) fun p28 =>
  (Option.bind (HS.rows S x2 2) fun p29 =>
  (Option.bind (HS.over S p28 (List.take (Sl.len p28) p29) 2) fun p30 =>
  (Option.bind (HS.cut p30 p17 x1 (Sl.len p17 : Int) 2) fun p31 =>
  (Option.bind (slices_rotateRight_book_entry_int.f k p31 (Sl.len x2 : Int) p30) fun p32 =>
  some (p17, p32.2)))))))))))))))
theorem snd {k : Nat} {x0 : Sl} {x1 : Int} {x2 : Sl} {S : HS}  {p : (Sl) × HS} (h : f k x0 x1 x2 S = some p) : HCall Try.prog base W0 β0 43 [(Sl.hv x0), (.int .i64 x1), (Sl.hv x2)] S (fun v S1 => v = (Sl.hv p.1) ∧ S1 = p.2) := by
  unfold f at h
  refine HCall.of_run at_.at_ body ?_
  show HRun Try.prog base W0 β0 43 none [.code c0] ⟨[(Sl.hv x0), (.int .i64 x1), (Sl.hv x2), .tup [], .tup [], .tup [], .tup [], .tup [], .tup [], .tup [], .tup [], .tup [], .tup [], .tup [], .tup [], .tup [], .tup [], .tup [], .tup [], .tup [], .tup [], .tup [], .tup [], .tup [], .tup [], .tup [], .tup [], .tup [], .tup [], .tup [], .tup [], .tup [], .tup [], .tup [], .tup [], .tup [], .tup [], .tup [], .tup [], .tup [], .tup [], .tup [], .tup [], .tup [], .tup [], .tup [], .tup [], .tup [], .tup [], .tup [], .tup [], .tup [], .tup [], .tup [], .tup [], .tup [], .tup [], .tup [], .tup [], .tup [], .tup [], .tup [], .tup [], .tup [], .tup [], .tup [], .tup [], .tup [], .tup [], .tup [], .tup [], .tup [], .tup [], .tup [], .tup [], .tup [], .tup [], .tup [], .tup [], .tup [], .tup [], .tup [], .tup [], .tup [], .tup [], .tup [], .tup [], .tup [], .tup [], .tup [], .tup [], .tup [], .tup [], .tup [], .tup []], []⟩ S _
  refine q_seq e0 ?_
  refine q_region e1 rfl ?_
  refine q_op (dst := some 6) rfl (fun _ ho => ok_assign ho (.const fun _ => .slNil none)) ?_
  refine hr_region_end ?_
  try dsimp only [HAct.put, List.set_cons_zero, List.set_cons_succ]
  refine q_seq e2 ?_
  refine q_region e3 rfl ?_
  refine q_op (dst := some 10) rfl (fun _ ho => ok_move ho (.tmp rfl)) ?_
  refine q_op (dst := some 11) rfl (fun _ ho => ok_move ho (.tmp rfl)) ?_
  obtain ⟨p1, hp1, h⟩ := bindo h
  refine q_op (dst := some 12) rfl (fun _ ho => ok_slice (kl := .i64) (kh := .i64) (s := x0) (l := x1) (h := (Sl.len x0 : Int)) ho tu85 si90 (.tmp rfl) (.inr ⟨_, rfl, (.tmp rfl)⟩) (.inl ⟨rfl, rfl⟩) hp1) ?_
  refine hr_region_end ?_
  try dsimp only [HAct.put, List.set_cons_zero, List.set_cons_succ]
  refine q_seq e4 ?_
  refine q_region e5 rfl ?_
  refine q_op (dst := some 13) rfl (fun _ ho => ok_move ho (.tmp rfl)) ?_
  refine q_op (dst := some 14) rfl (fun _ ho => ok_len_sl (q := Sl.a x2) (n := Sl.len x2) (z := Sl.cap x2) ho rfl tu85 (.tmp rfl)) ?_
  refine q_op (dst := some 7) rfl (fun _ ho => ok_assign ho (.tmp rfl)) ?_
  refine hr_region_end ?_
  try dsimp only [HAct.put, List.set_cons_zero, List.set_cons_succ]
  refine q_seq e6 ?_
  refine q_seq e7 ?_
  refine q_region e8 rfl ?_
  refine q_op (dst := some 15) rfl (fun _ ho => ok_move ho (.tmp rfl)) ?_
  refine q_op (dst := some 16) rfl (fun _ ho => ok_ibin ho (.tmp rfl) (.int _ _) rfl) ?_
  refine hr_region_end ?_
  try dsimp only [HAct.put, List.set_cons_zero, List.set_cons_succ]
  rcases ifc h with ⟨hc2, h⟩ | ⟨hc2, h⟩
  · refine q_cond_t e9 (.tmp rfl) (decide_eq_true hc2) ?_
    refine q_seq e10 ?_
    refine q_region e11 rfl ?_
    refine q_op (dst := some 17) rfl (fun _ ho => ok_move ho (.tmp rfl)) ?_
    refine q_op (dst := some 6) rfl (fun _ ho => ok_assign ho (.tmp rfl)) ?_
    refine hr_region_end ?_
    try dsimp only [HAct.put, List.set_cons_zero, List.set_cons_succ]
    cases h
    exact q_ret e12 at_.at_ rfl (res1 rfl rfl) ⟨rfl, rfl⟩
  · refine q_cond_f e9 (.tmp rfl) (decide_eq_false hc2) ?_
    refine q_skipc e13 ?_
    refine q_seq e14 ?_
    refine q_region e15 rfl ?_
    refine q_op (dst := some 18) rfl (fun _ ho => ok_move ho (.tmp rfl)) ?_
    refine q_op (dst := some 19) rfl (fun _ ho => ok_len_sl (q := Sl.a x0) (n := Sl.len x0) (z := Sl.cap x0) ho rfl tu85 (.tmp rfl)) ?_
    refine q_op (dst := some 8) rfl (fun _ ho => ok_assign ho (.tmp rfl)) ?_
    refine hr_region_end ?_
    try dsimp only [HAct.put, List.set_cons_zero, List.set_cons_succ]
    refine q_seq e16 ?_
    refine q_seq e17 ?_
    refine q_region e18 rfl ?_
    refine q_op (dst := some 20) rfl (fun _ ho => ok_move ho (.tmp rfl)) ?_
    refine q_op (dst := some 21) rfl (fun _ ho => ok_move ho (.tmp rfl)) ?_
    refine q_op (dst := some 22) rfl (fun _ ho => ok_ibin ho (.tmp rfl) (.tmp rfl) rfl) ?_
    refine hr_region_end ?_
    try dsimp only [HAct.put, List.set_cons_zero, List.set_cons_succ]
    rcases ifc h with ⟨hc3, h⟩ | ⟨hc3, h⟩
    · refine q_cond_t e19 (.tmp rfl) (decide_eq_true hc3) ?_
      refine q_seq e20 ?_
      refine q_region e21 rfl ?_
      refine q_op (dst := some 23) rfl (fun _ ho => ok_move ho (.tmp rfl)) ?_
      refine q_op (dst := some 24) rfl (fun _ ho => ok_move ho (.tmp rfl)) ?_
      obtain ⟨p4, hp4, h⟩ := bindo h
      obtain ⟨p5, hp5, h⟩ := bindo h
      refine q_op (dst := some 25) rfl (fun _ ho => ok_append (s := x0) (s1 := x2) el85 ho rfl rfl ⟨_, tu85⟩ (.tmp rfl) (.tmp rfl) hp4 hp5) ?_
      refine q_op (dst := some 6) rfl (fun _ ho => ok_assign ho (.tmp rfl)) ?_
      refine hr_region_end ?_
      try dsimp only [HAct.put, List.set_cons_zero, List.set_cons_succ]
      cases h
      exact q_ret e22 at_.at_ rfl (res1 rfl rfl) ⟨rfl, rfl⟩
    · refine q_cond_f e19 (.tmp rfl) (decide_eq_false hc3) ?_
      refine q_skipc e23 ?_
      refine q_seq e24 ?_
      refine q_seq e25 ?_
      refine q_region e26 rfl ?_
      refine q_op (dst := some 26) rfl (fun _ ho => ok_move ho (.tmp rfl)) ?_
      refine q_op (dst := some 27) rfl (fun _ ho => ok_move ho (.tmp rfl)) ?_
      refine q_op (dst := some 28) rfl (fun _ ho => ok_ibin ho (.tmp rfl) (.tmp rfl) rfl) ?_
      refine q_op (dst := some 29) rfl (fun _ ho => ok_move ho (.tmp rfl)) ?_
      try dsimp only [HAct.put, List.set_cons_zero, List.set_cons_succ]
      obtain ⟨p6, hp6, h⟩ := bindo h
      refine q_op (dst := some 30) rfl (fun _ ho => ok_cap (s := x0) ho rfl tu85 (.tmp rfl) hp6) ?_
      refine q_op (dst := some 31) rfl (fun _ ho => ok_ibin ho (.tmp rfl) (.tmp rfl) rfl) ?_
      refine hr_region_end ?_
      try dsimp only [HAct.put, List.set_cons_zero, List.set_cons_succ]
      rcases ifc h with ⟨hc7, h⟩ | ⟨hc7, h⟩
      · refine q_cond_t e27 (.tmp rfl) (decide_eq_true hc7) ?_
        refine q_seq e28 ?_
        refine q_region e29 rfl ?_
        refine q_op (dst := some 32) rfl (fun _ ho => ok_move ho (.tmp rfl)) ?_
        refine q_op (dst := some 33) rfl (fun _ ho => ok_move ho (.tmp rfl)) ?_
        obtain ⟨p8, hp8, h⟩ := bindo h
        refine q_op (dst := some 34) rfl (fun _ ho => ok_slice (kl := .i64) (kh := .i64) (s := x0) (l := 0) (h := x1) ho tu85 si90 (.tmp rfl) (.inl ⟨rfl, rfl⟩) (.inr ⟨_, rfl, (.tmp rfl)⟩) hp8) ?_
        refine q_op (dst := some 35) rfl (fun _ ho => ok_move ho (.tmp rfl)) ?_
        try dsimp only [HAct.put, List.set_cons_zero, List.set_cons_succ]
        refine q_op (dst := some 36) rfl (fun _ ho => ok_move ho (.tmp rfl)) ?_
        refine q_op (dst := some 37) rfl (fun _ ho => ok_ibin ho (.tmp rfl) (.tmp rfl) rfl) ?_
        refine q_op (dst := some 38) rfl (fun _ ho => ok_move ho (.tmp rfl)) ?_
        refine q_op (dst := some 39) rfl (fun _ ho => ok_ibin ho (.tmp rfl) (.tmp rfl) rfl) ?_
        try dsimp only [HAct.put, List.set_cons_zero, List.set_cons_succ]
        obtain ⟨p9, hp9, h⟩ := bindo h
        refine q_op (dst := some 40) rfl (fun _ ho => ok_append_zeros (s := p8) el85 ho rfl rfl tu3 (.tmp rfl) (.tmp rfl) hp9) ?_
        refine q_op (dst := some 9) rfl (fun _ ho => ok_assign ho (.tmp rfl)) ?_
        refine hr_region_end ?_
        try dsimp only [HAct.put, List.set_cons_zero, List.set_cons_succ]
        refine q_seq e30 ?_
        refine q_region e31 rfl ?_
        refine q_op (dst := some 41) rfl (fun _ ho => ok_move ho (.tmp rfl)) ?_
        refine q_op (dst := some 42) rfl (fun _ ho => ok_move ho (.tmp rfl)) ?_
        obtain ⟨p10, hp10, h⟩ := bindo h
        refine q_op (dst := some 43) rfl (fun _ ho => ok_slice (kl := .i64) (kh := .i64) (s := (p9.1)) (l := x1) (h := (Sl.len (p9.1) : Int)) ho tu85 si90 (.tmp rfl) (.inr ⟨_, rfl, (.tmp rfl)⟩) (.inl ⟨rfl, rfl⟩) hp10) ?_
        refine q_op (dst := some 44) rfl (fun _ ho => ok_move ho (.tmp rfl)) ?_
        try dsimp only [HAct.put, List.set_cons_zero, List.set_cons_succ]
        obtain ⟨p11, hp11, h⟩ := bindo h
        obtain ⟨p12, hp12, h⟩ := bindo h
        refine q_op (dst := some 45) rfl (fun _ ho => ok_copy (s := p10) (s1 := x2) el85 ho rfl (.tmp rfl) (.tmp rfl) hp11 hp12) ?_
        refine hr_region_end ?_
        try dsimp only [HAct.put, List.set_cons_zero, List.set_cons_succ]
        refine q_seq e32 ?_
        refine x_start (cls := [0, 0, 0, 0, 1, 0, 0, 1, 2]) (rk := [0, 1, 2, 3, 4, 5, 6, 7, 8]) e33 (by kernel_rfl) ?_
        refine x_go (f_op (dst := some 46) (ts := [9]) rfl (by intro _ _ h; cases h) (by kernel_rfl) (fun _ _ ho => ok_move ho (.tmp rfl))) rfl ?_
        refine x_go (f_op (dst := some 47) (ts := [1]) rfl (by intro _ _ h; cases h) (by kernel_rfl) (fun _ _ ho => ok_move ho (.tmp rfl))) rfl ?_
        refine x_go (f_op (dst := some 48) (ts := [7]) rfl (by intro _ _ h; cases h) (by kernel_rfl) (fun _ _ ho => ok_move ho (.tmp rfl))) rfl ?_
        refine x_go (f_op (dst := some 49) (ts := [47, 48]) rfl (by intro _ _ h; cases h) (by kernel_rfl) (fun _ _ ho => ok_ibin ho (.tmp rfl) (.tmp rfl) rfl)) rfl ?_
        try dsimp only [HAct.put, List.set_cons_zero, List.set_cons_succ]
        obtain ⟨p13, hp13, h⟩ := bindo h
        refine x_go (r_op (dst := some 50) (ts := [46, 49]) rfl (by intro _ _ h; cases h) (by kernel_rfl) (fun _ ho => ok_slice (kl := .i64) (kh := .i64) (s := (p9.1)) (l := (w64 (x1 + (Sl.len x2 : Int)))) (h := (Sl.len (p9.1) : Int)) ho tu85 si90 (.tmp rfl) (.inr ⟨_, rfl, (.tmp rfl)⟩) (.inl ⟨rfl, rfl⟩) hp13)) rfl ?_
        refine x_go (f_op (dst := some 51) (ts := [0]) rfl (by intro _ _ h; cases h) (by kernel_rfl) (fun _ _ ho => ok_move ho (.tmp rfl))) rfl ?_
        refine x_go (f_op (dst := some 52) (ts := [1]) rfl (by intro _ _ h; cases h) (by kernel_rfl) (fun _ _ ho => ok_move ho (.tmp rfl))) rfl ?_
        obtain ⟨p14, hp14, h⟩ := bindo h
        refine x_go (r_op (dst := some 53) (ts := [51, 52]) rfl (by intro _ _ h; cases h) (by kernel_rfl) (fun _ ho => ok_slice (kl := .i64) (kh := .i64) (s := x0) (l := x1) (h := (Sl.len x0 : Int)) ho tu85 si90 (.tmp rfl) (.inr ⟨_, rfl, (.tmp rfl)⟩) (.inl ⟨rfl, rfl⟩) hp14)) rfl ?_
        try dsimp only [HAct.put, List.set_cons_zero, List.set_cons_succ]
        obtain ⟨p15, hp15, h⟩ := bindo h
        obtain ⟨p16, hp16, h⟩ := bindo h
        refine x_go (e_op (dst := some 54) (ts := [50, 53]) rfl (by intro _ _ h; cases h) (by kernel_rfl) (fun _ ho => ok_copy (s := p13) (s1 := p14) el85 ho rfl (.tmp rfl) (.tmp rfl) hp15 hp16)) rfl ?_
        refine x_rest rfl ?_
        refine hr_region_end ?_
        try dsimp only [HAct.put, List.set_cons_zero, List.set_cons_succ]
        refine q_seq e34 ?_
        refine q_region e35 rfl ?_
        refine q_op (dst := some 55) rfl (fun _ ho => ok_move ho (.tmp rfl)) ?_
        refine q_op (dst := some 6) rfl (fun _ ho => ok_assign ho (.tmp rfl)) ?_
        refine hr_region_end ?_
        try dsimp only [HAct.put, List.set_cons_zero, List.set_cons_succ]
        cases h
        exact q_ret e36 at_.at_ rfl (res1 rfl rfl) ⟨rfl, rfl⟩
      · refine q_cond_f e27 (.tmp rfl) (decide_eq_false hc7) ?_
        refine q_skipc e37 ?_
        refine q_seq e38 ?_
        refine q_region e39 rfl ?_
        refine q_op (dst := some 56) rfl (fun _ ho => ok_move ho (.tmp rfl)) ?_
        refine q_op (dst := some 57) rfl (fun _ ho => ok_move ho (.tmp rfl)) ?_
        refine q_op (dst := some 58) rfl (fun _ ho => ok_move ho (.tmp rfl)) ?_
        refine q_op (dst := some 59) rfl (fun _ ho => ok_ibin ho (.tmp rfl) (.tmp rfl) rfl) ?_
        try dsimp only [HAct.put, List.set_cons_zero, List.set_cons_succ]
        obtain ⟨p17, hp17, h⟩ := bindo h
        refine q_op (dst := some 60) rfl (fun _ ho => ok_slice (kl := .i64) (kh := .i64) (s := x0) (l := 0) (h := (w64 ((Sl.len x0 : Int) + (Sl.len x2 : Int)))) ho tu85 si90 (.tmp rfl) (.inl ⟨rfl, rfl⟩) (.inr ⟨_, rfl, (.tmp rfl)⟩) hp17) ?_
        refine q_op (dst := some 0) rfl (fun _ ho => ok_assign ho (.tmp rfl)) ?_
        refine hr_region_end ?_
        try dsimp only [HAct.put, List.set_cons_zero, List.set_cons_succ]
        refine q_seq e40 ?_
        refine q_seq e41 ?_
        refine q_region e42 rfl ?_
        refine q_op (dst := some 61) rfl (fun _ ho => ok_move ho (.tmp rfl)) ?_
        refine q_op (dst := some 62) rfl (fun _ ho => ok_move ho (.tmp rfl)) ?_
        refine q_op (dst := some 63) rfl (fun _ ho => ok_move ho (.tmp rfl)) ?_
        refine q_op (dst := some 64) rfl (fun _ ho => ok_move ho (.tmp rfl)) ?_
        try dsimp only [HAct.put, List.set_cons_zero, List.set_cons_succ]
        refine q_op (dst := some 65) rfl (fun _ ho => ok_ibin ho (.tmp rfl) (.tmp rfl) rfl) ?_
        obtain ⟨p18, hp18, h⟩ := bindo h
        refine q_op (dst := some 66) rfl (fun _ ho => ok_slice (kl := .i64) (kh := .i64) (s := p17) (l := (w64 (x1 + (Sl.len x2 : Int)))) (h := (Sl.len p17 : Int)) ho tu85 si90 (.tmp rfl) (.inr ⟨_, rfl, (.tmp rfl)⟩) (.inl ⟨rfl, rfl⟩) hp18) ?_
        obtain ⟨p19, hp19, h⟩ := bindo h
        refine q_op (dst := some 67) rfl (fun _ ho => ok_overlaps (s1 := x2) (s2 := p18) ho ext60 tu85 si90 (.tmp rfl) (.tmp rfl) hp19) ?_
        refine q_op (dst := some 68) rfl (fun _ ho => ok_not ho (.tmp rfl)) ?_
        refine hr_region_end ?_
        try dsimp only [HAct.put, List.set_cons_zero, List.set_cons_succ]
        rcases ifc h with ⟨hc20, h⟩ | ⟨hc20, h⟩
        · refine q_cond_t e43 (.tmp rfl) hc20 ?_
          refine q_seq e44 ?_
          refine x_start (cls := [0, 0, 0, 0, 1, 0, 0, 1, 2]) (rk := [0, 1, 2, 3, 4, 5, 6, 7, 8]) e45 (by kernel_rfl) ?_
          refine x_go (f_op (dst := some 69) (ts := [0]) rfl (by intro _ _ h; cases h) (by kernel_rfl) (fun _ _ ho => ok_move ho (.tmp rfl))) rfl ?_
          refine x_go (f_op (dst := some 70) (ts := [1]) rfl (by intro _ _ h; cases h) (by kernel_rfl) (fun _ _ ho => ok_move ho (.tmp rfl))) rfl ?_
          refine x_go (f_op (dst := some 71) (ts := [7]) rfl (by intro _ _ h; cases h) (by kernel_rfl) (fun _ _ ho => ok_move ho (.tmp rfl))) rfl ?_
          refine x_go (f_op (dst := some 72) (ts := [70, 71]) rfl (by intro _ _ h; cases h) (by kernel_rfl) (fun _ _ ho => ok_ibin ho (.tmp rfl) (.tmp rfl) rfl)) rfl ?_
          try dsimp only [HAct.put, List.set_cons_zero, List.set_cons_succ]
          obtain ⟨p21, hp21, h⟩ := bindo h
          refine x_go (r_op (dst := some 73) (ts := [69, 72]) rfl (by intro _ _ h; cases h) (by kernel_rfl) (fun _ ho => ok_slice (kl := .i64) (kh := .i64) (s := p17) (l := (w64 (x1 + (Sl.len x2 : Int)))) (h := (Sl.len p17 : Int)) ho tu85 si90 (.tmp rfl) (.inr ⟨_, rfl, (.tmp rfl)⟩) (.inl ⟨rfl, rfl⟩) hp21)) rfl ?_
          refine x_go (f_op (dst := some 74) (ts := [0]) rfl (by intro _ _ h; cases h) (by kernel_rfl) (fun _ _ ho => ok_move ho (.tmp rfl))) rfl ?_
          refine x_go (f_op (dst := some 75) (ts := [1]) rfl (by intro _ _ h; cases h) (by kernel_rfl) (fun _ _ ho => ok_move ho (.tmp rfl))) rfl ?_
          obtain ⟨p22, hp22, h⟩ := bindo h
          refine x_go (r_op (dst := some 76) (ts := [74, 75]) rfl (by intro _ _ h; cases h) (by kernel_rfl) (fun _ ho => ok_slice (kl := .i64) (kh := .i64) (s := p17) (l := x1) (h := (Sl.len p17 : Int)) ho tu85 si90 (.tmp rfl) (.inr ⟨_, rfl, (.tmp rfl)⟩) (.inl ⟨rfl, rfl⟩) hp22)) rfl ?_
          try dsimp only [HAct.put, List.set_cons_zero, List.set_cons_succ]
          obtain ⟨p23, hp23, h⟩ := bindo h
          obtain ⟨p24, hp24, h⟩ := bindo h
          refine x_go (e_op (dst := some 77) (ts := [73, 76]) rfl (by intro _ _ h; cases h) (by kernel_rfl) (fun _ ho => ok_copy (s := p21) (s1 := p22) el85 ho rfl (.tmp rfl) (.tmp rfl) hp23 hp24)) rfl ?_
          refine x_rest rfl ?_
          refine hr_region_end ?_
          try dsimp only [HAct.put, List.set_cons_zero, List.set_cons_succ]
          refine q_seq e46 ?_
          refine q_region e47 rfl ?_
          refine q_op (dst := some 78) rfl (fun _ ho => ok_move ho (.tmp rfl)) ?_
          refine q_op (dst := some 79) rfl (fun _ ho => ok_move ho (.tmp rfl)) ?_
          obtain ⟨p25, hp25, h⟩ := bindo h
          refine q_op (dst := some 80) rfl (fun _ ho => ok_slice (kl := .i64) (kh := .i64) (s := p17) (l := x1) (h := (Sl.len p17 : Int)) ho tu85 si90 (.tmp rfl) (.inr ⟨_, rfl, (.tmp rfl)⟩) (.inl ⟨rfl, rfl⟩) hp25) ?_
          refine q_op (dst := some 81) rfl (fun _ ho => ok_move ho (.tmp rfl)) ?_
          try dsimp only [HAct.put, List.set_cons_zero, List.set_cons_succ]
          obtain ⟨p26, hp26, h⟩ := bindo h
          obtain ⟨p27, hp27, h⟩ := bindo h
          refine q_op (dst := some 82) rfl (fun _ ho => ok_copy (s := p25) (s1 := x2) el85 ho rfl (.tmp rfl) (.tmp rfl) hp26 hp27) ?_
          refine hr_region_end ?_
          try dsimp only [HAct.put, List.set_cons_zero, List.set_cons_succ]
          refine q_seq e48 ?_
          refine q_region e49 rfl ?_
          refine q_op (dst := some 83) rfl (fun _ ho => ok_move ho (.tmp rfl)) ?_
          refine q_op (dst := some 6) rfl (fun _ ho => ok_assign ho (.tmp rfl)) ?_
          refine hr_region_end ?_
          try dsimp only [HAct.put, List.set_cons_zero, List.set_cons_succ]
          cases h
          exact q_ret e50 at_.at_ rfl (res1 rfl rfl) ⟨rfl, rfl⟩
        · refine q_cond_f e43 (.tmp rfl) (bfalse hc20) ?_
          refine q_skipc e51 ?_
          refine q_seq e52 ?_
          refine q_region e53 rfl ?_
          refine q_op (dst := some 84) rfl (fun _ ho => ok_move ho (.tmp rfl)) ?_
          refine q_op (dst := some 85) rfl (fun _ ho => ok_move ho (.tmp rfl)) ?_
          obtain ⟨p28, hp28, h⟩ := bindo h
          refine q_op (dst := some 86) rfl (fun _ ho => ok_slice (kl := .i64) (kh := .i64) (s := p17) (l := (Sl.len x0 : Int)) (h := (Sl.len p17 : Int)) ho tu85 si90 (.tmp rfl) (.inr ⟨_, rfl, (.tmp rfl)⟩) (.inl ⟨rfl, rfl⟩) hp28) ?_
          refine q_op (dst := some 87) rfl (fun _ ho => ok_move ho (.tmp rfl)) ?_
          try dsimp only [HAct.put, List.set_cons_zero, List.set_cons_succ]
          obtain ⟨p29, hp29, h⟩ := bindo h
          obtain ⟨p30, hp30, h⟩ := bindo h
          refine q_op (dst := some 88) rfl (fun _ ho => ok_copy (s := p28) (s1 := x2) el85 ho rfl (.tmp rfl) (.tmp rfl) hp29 hp30) ?_
          refine hr_region_end ?_
          try dsimp only [HAct.put, List.set_cons_zero, List.set_cons_succ]
          refine q_seq e54 ?_
          refine q_region e55 rfl ?_
          refine q_op (dst := some 89) rfl (fun _ ho => ok_move ho (.tmp rfl)) ?_
          refine q_op (dst := some 90) rfl (fun _ ho => ok_move ho (.tmp rfl)) ?_
          obtain ⟨p31, hp31, h⟩ := bindo h
          refine q_op (dst := some 91) rfl (fun _ ho => ok_slice (kl := .i64) (kh := .i64) (s := p17) (l := x1) (h := (Sl.len p17 : Int)) ho tu85 si90 (.tmp rfl) (.inr ⟨_, rfl, (.tmp rfl)⟩) (.inl ⟨rfl, rfl⟩) hp31) ?_
          refine q_op (dst := some 92) rfl (fun _ ho => ok_move ho (.tmp rfl)) ?_
          try dsimp only [HAct.put, List.set_cons_zero, List.set_cons_succ]
          obtain ⟨p32, hp32, h⟩ := bindo h
          refine q_call (dst := some 93) rfl (.func _) (.cons (.tmp rfl) (.cons (.tmp rfl) Evs.nil)) (HInv.static slices_rotateRight_book_entry_int.at_ slices_rotateRight_book_entry_int.body (slices_rotateRight_book_entry_int.snd  hp32)) ?_
          rintro _ _ ⟨rfl, rfl⟩
          refine hr_region_end ?_
          try dsimp only [HAct.put, List.set_cons_zero, List.set_cons_succ]
          refine q_seq e56 ?_
          refine q_region e57 rfl ?_
          refine q_op (dst := some 94) rfl (fun _ ho => ok_move ho (.tmp rfl)) ?_
          refine q_op (dst := some 6) rfl (fun _ ho => ok_assign ho (.tmp rfl)) ?_
          refine hr_region_end ?_
          try dsimp only [HAct.put, List.set_cons_zero, List.set_cons_succ]
          cases h
          exact q_ret e58 at_.at_ rfl (res1 rfl rfl) ⟨rfl, rfl⟩
end
end slices_Insert_book_entry_int_book_entry_int
namespace slices_Insert_book_entry_int_book_entry_int_w
theorem at_ : FnAt Try.prog 43 Try.f43 := slices_Insert_book_entry_int_book_entry_int.at_
theorem body : Try.f43.body = some slices_Insert_book_entry_int_book_entry_int.c0 := slices_Insert_book_entry_int_book_entry_int.body
def f (x0 : Sl) (x1 : Int) (x2 : Sl) (S : HS) : Option ((Sl) × HS) := HS.ins S x0 x1 x2 2
theorem snd {base : Nat} {W0 : World} {β0 : Bt} {x0 : Sl} {x1 : Int} {x2 : Sl} {S : HS} {p : (Sl) × HS} (h : f x0 x1 x2 S = some p) : HCall Try.prog base W0 β0 43 [(Sl.hv x0), (.int .i64 x1), (Sl.hv x2)] S (fun v S1 => v = (Sl.hv p.1) ∧ S1 = p.2) :=
  ins_snd (rot := fun a b T => slices_rotateRight_book_entry_int.f 0 a b T) (zr := [(.str []), (.int .i64 0)]) (fun _ _ _ h => slices_Insert_book_entry_int_book_entry_int.snd (k := 0) h) h
end slices_Insert_book_entry_int_book_entry_int_w
namespace book_Book_int_Put
abbrev id : Nat := 23
theorem at_ : FnAt Try.prog 23 Try.f23 := ⟨Try.func23, by kernel_rfl⟩
noncomputable def c0 : Code := (Try.f23.body).getD .skip
noncomputable def c1 : Code := match c0 with | .seq x _ => x | _ => .skip
noncomputable def c2 : Code := match c0 with | .seq _ x => x | _ => .skip
noncomputable def c3 : Code := match c2 with | .seq x _ => x | _ => .skip
noncomputable def c4 : Code := match c3 with | .seq x _ => x | _ => .skip
noncomputable def c5 : Code := match c3 with | .seq _ x => x | _ => .skip
noncomputable def c6 : Code := match c5 with | .cond _ x _ => x | _ => .skip
noncomputable def c7 : Code := match c6 with | .seq x _ => x | _ => .skip
noncomputable def c8 : Code := match c6 with | .seq _ x => x | _ => .skip
noncomputable def c9 : Code := match c5 with | .cond _ _ x => x | _ => .skip
noncomputable def c10 : Code := match c2 with | .seq _ x => x | _ => .skip
noncomputable def c11 : Code := match c10 with | .seq x _ => x | _ => .skip
noncomputable def c12 : Code := match c10 with | .seq _ x => x | _ => .skip
noncomputable def c13 : Code := match c12 with | .seq x _ => x | _ => .skip
noncomputable def c14 : Code := match c13 with | .block _ x => x | _ => .skip
noncomputable def c15 : Code := match c14 with | .seq x _ => x | _ => .skip
noncomputable def c16 : Code := match c14 with | .seq _ x => x | _ => .skip
noncomputable def c17 : Code := match c16 with | .cond _ x _ => x | _ => .skip
noncomputable def c18 : Code := match c16 with | .cond _ _ x => x | _ => .skip
noncomputable def c19 : Code := match c18 with | .seq x _ => x | _ => .skip
noncomputable def c20 : Code := match c18 with | .seq _ x => x | _ => .skip
noncomputable def c21 : Code := match c20 with | .cond _ x _ => x | _ => .skip
noncomputable def c22 : Code := match c21 with | .seq x _ => x | _ => .skip
noncomputable def c23 : Code := match c21 with | .seq _ x => x | _ => .skip
noncomputable def c24 : Code := match c20 with | .cond _ _ x => x | _ => .skip
noncomputable def c25 : Code := match c12 with | .seq _ x => x | _ => .skip
noncomputable def c26 : Code := match c25 with | .seq x _ => x | _ => .skip
noncomputable def c27 : Code := match c25 with | .seq _ x => x | _ => .skip
theorem e0 : c0 = .seq c1 c2 := by kernel_rfl
noncomputable def r1 : Array Oper := match c1 with | .region _ x _ => x | _ => #[]
theorem e1 : c1 = .region 0 r1 false := by kernel_rfl
theorem e2 : c2 = .seq c3 c10 := by kernel_rfl
theorem e3 : c3 = .seq c4 c5 := by kernel_rfl
noncomputable def r4 : Array Oper := match c4 with | .region _ x _ => x | _ => #[]
theorem e4 : c4 = .region 1 r4 false := by kernel_rfl
theorem e5 : c5 = .cond (.tmp 10) c6 c9 := by kernel_rfl
theorem e6 : c6 = .seq c7 c8 := by kernel_rfl
noncomputable def r7 : Array Oper := match c7 with | .region _ x _ => x | _ => #[]
theorem e7 : c7 = .region 2 r7 false := by kernel_rfl
theorem e8 : c8 = .ret := by kernel_rfl
theorem e9 : c9 = .skip := by kernel_rfl
theorem e10 : c10 = .seq c11 c12 := by kernel_rfl
noncomputable def r11 : Array Oper := match c11 with | .region _ x _ => x | _ => #[]
theorem e11 : c11 = .region 3 r11 false := by kernel_rfl
theorem e12 : c12 = .seq c13 c25 := by kernel_rfl
theorem e13 : c13 = .block 0 c14 := by kernel_rfl
theorem e14 : c14 = .seq c15 c16 := by kernel_rfl
noncomputable def r15 : Array Oper := match c15 with | .region _ x _ => x | _ => #[]
theorem e15 : c15 = .region 5 r15 false := by kernel_rfl
theorem e16 : c16 = .cond (.tmp 30) c17 c18 := by kernel_rfl
noncomputable def r17 : Array Oper := match c17 with | .region _ x _ => x | _ => #[]
theorem e17 : c17 = .region 6 r17 false := by kernel_rfl
theorem e18 : c18 = .seq c19 c20 := by kernel_rfl
noncomputable def r19 : Array Oper := match c19 with | .region _ x _ => x | _ => #[]
theorem e19 : c19 = .region 7 r19 true := by kernel_rfl
theorem e20 : c20 = .cond (.tmp 41) c21 c24 := by kernel_rfl
theorem e21 : c21 = .seq c22 c23 := by kernel_rfl
noncomputable def r22 : Array Oper := match c22 with | .region _ x _ => x | _ => #[]
theorem e22 : c22 = .region 8 r22 false := by kernel_rfl
theorem e23 : c23 = .ret := by kernel_rfl
noncomputable def r24 : Array Oper := match c24 with | .region _ x _ => x | _ => #[]
theorem e24 : c24 = .region 4 r24 false := by kernel_rfl
theorem e25 : c25 = .seq c26 c27 := by kernel_rfl
noncomputable def r26 : Array Oper := match c26 with | .region _ x _ => x | _ => #[]
theorem e26 : c26 = .region 9 r26 false := by kernel_rfl
theorem e27 : c27 = .ret := by kernel_rfl
theorem body : Try.f23.body = some c0 := by kernel_rfl
section
variable {base : Nat} {W0 : World} {β0 : Bt}
def J0 (D : Dp) (H : Hd) (k : Nat) (S : HS) : Option ((Int) × HS) :=
  some (0, S)
theorem J0_snd {D : Dp} {H : Hd} {k : Nat} (hD : DSound Try.prog base W0 D) (hH : HSound Try.prog base W0 β0 H)  {S : HS} {p : (Int) × HS} {g0 g1 g2 g3 g4 g5 g6 g7 g8 g9 g10 g11 g12 g13 g14 g15 g16 g17 g18 g19 g20 g21 g22 g23 g24 g25 g26 g27 g28 g29 g30 g31 g32 g33 g34 g35 g36 g37 g38 g39 g40 g41 g42 g43 g44 g45 g46 g47 g48 g49 g50 g51 : HV} (h : J0 D H k S = some p) : HRun Try.prog base W0 β0 23 none [.code c25] ⟨[g0, g1, g2, g3, g4, g5, g6, g7, g8, g9, g10, g11, g12, g13, g14, g15, g16, g17, g18, g19, g20, g21, g22, g23, g24, g25, g26, g27, g28, g29, g30, g31, g32, g33, g34, g35, g36, g37, g38, g39, g40, g41, g42, g43, g44, g45, g46, g47, g48, g49, g50, g51], []⟩ S (fun v S1 => v = (.int .i64 p.1) ∧ S1 = p.2) := by
  unfold J0 at h
  refine q_seq e25 ?_
  refine q_region e26 rfl ?_
  refine q_op (dst := some 6) rfl (fun _ ho => ok_assign ho (.int _ _)) ?_
  refine hr_region_end ?_
  try dsimp only [HAct.put, List.set_cons_zero, List.set_cons_succ]
  cases h
  exact q_ret e27 at_.at_ rfl (res1 rfl rfl) ⟨rfl, rfl⟩
def f (D : Dp) (H : Hd) (k : Nat) (x0 : (Option HA)) (x1 : (List UInt8)) (x2 : Int) (S : HS) : Option ((Int) × HS) :=
  (if (Option.isNone x0) = true then
  some (1, S) else
  (Option.bind (book_Book_int_at.f D H k x0 x1 S) fun p2 =>
  (if p2.1.2 = true then
  (Option.bind (x0) fun p4 =>
  (Option.bind (HS.ldSl p2.2 (HA.fld p4 1)) fun p5 =>
  (Option.bind (HS.idx p2.2 p5 p2.1.1 2) fun p6 =>
  (Option.bind (HS.sets p2.2 p6 [(.str x1), (.int .i64 x2)]) fun p7 =>
  J0 D H k p7)))) else
  (Option.bind (x0) fun p8 =>
  (Option.bind (HS.ldSl p2.2 (HA.fld p8 1)) fun p9 =>
  (Option.bind (x0) fun p10 =>
  (Option.bind (HS.ldI p2.2 .i64 (HA.fld p10 0)) fun p11 =>
  (if (Sl.len p9 : Int) ≥ p11 then
  some (7, p2.2) else
  (Option.bind (x0) fun p13 =>
  (Option.bind (HS.ldSl p2.2 (HA.fld p13 1)) fun p14 =>
  (letv (HS.lit p2.2 [[(.str x1), (.int .i64 x2)]] 2) fun p15 =>
  (Option.bind (slices_Insert_book_entry_int_book_entry_int_w.f p14 p2.1.1 (p15.1) (p15.2)) fun p16 =>
  (Option.bind (x0) fun p17 =>
  (Option.bind (HS.sets p16.2 (HA.fld p17 1) [(Sl.hv p16.1)]) fun p18 =>
  J0 D H k p18))))))))))))))
theorem snd {D : Dp} {H : Hd} {k : Nat} {x0 : (Option HA)} {x1 : (List UInt8)} {x2 : Int} {S : HS} (hD : DSound Try.prog base W0 D) (hH : HSound Try.prog base W0 β0 H)  {p : (Int) × HS} (h : f D H k x0 x1 x2 S = some p) : HCall Try.prog base W0 β0 23 [(.ptr x0), (.str x1), (.int .i64 x2)] S (fun v S1 => v = (.int .i64 p.1) ∧ S1 = p.2) := by
  unfold f at h
  refine HCall.of_run at_.at_ body ?_
  show HRun Try.prog base W0 β0 23 none [.code c0] ⟨[(.ptr x0), (.str x1), (.int .i64 x2), .tup [], .tup [], .tup [], .tup [], .tup [], .tup [], .tup [], .tup [], .tup [], .tup [], .tup [], .tup [], .tup [], .tup [], .tup [], .tup [], .tup [], .tup [], .tup [], .tup [], .tup [], .tup [], .tup [], .tup [], .tup [], .tup [], .tup [], .tup [], .tup [], .tup [], .tup [], .tup [], .tup [], .tup [], .tup [], .tup [], .tup [], .tup [], .tup [], .tup [], .tup [], .tup [], .tup [], .tup [], .tup [], .tup [], .tup [], .tup [], .tup []], []⟩ S _
  refine q_seq e0 ?_
  refine q_region e1 rfl ?_
  refine q_op (dst := some 6) rfl (fun _ ho => ok_assign ho (.int _ _)) ?_
  refine hr_region_end ?_
  try dsimp only [HAct.put, List.set_cons_zero, List.set_cons_succ]
  refine q_seq e2 ?_
  refine q_seq e3 ?_
  refine q_region e4 rfl ?_
  refine q_op (dst := some 9) rfl (fun _ ho => ok_move ho (.tmp rfl)) ?_
  refine q_op (dst := some 10) rfl (fun _ ho => ok_nil_ptr ho tu44 (.tmp rfl) (.inl ⟨rfl, rfl⟩)) ?_
  refine hr_region_end ?_
  try dsimp only [HAct.put, List.set_cons_zero, List.set_cons_succ]
  rcases ifc h with ⟨hc1, h⟩ | ⟨hc1, h⟩
  · refine q_cond_t e5 (.tmp rfl) hc1 ?_
    refine q_seq e6 ?_
    refine q_region e7 rfl ?_
    refine q_op (dst := some 6) rfl (fun _ ho => ok_assign ho (.int _ _)) ?_
    refine hr_region_end ?_
    try dsimp only [HAct.put, List.set_cons_zero, List.set_cons_succ]
    cases h
    exact q_ret e8 at_.at_ rfl (res1 rfl rfl) ⟨rfl, rfl⟩
  · refine q_cond_f e5 (.tmp rfl) (bfalse hc1) ?_
    refine q_skipc e9 ?_
    refine q_seq e10 ?_
    refine q_region e11 rfl ?_
    refine q_op (dst := some 12) rfl (fun _ ho => ok_move ho (.tmp rfl)) ?_
    refine q_op (dst := some 13) rfl (fun _ ho => ok_move ho (.tmp rfl)) ?_
    obtain ⟨p2, hp2, h⟩ := bindo h
    refine q_call (dst := some 14) rfl (.func _) (.cons (.tmp rfl) (.cons (.tmp rfl) Evs.nil)) (HInv.static book_Book_int_at.at_ book_Book_int_at.body (book_Book_int_at.snd hD hH hp2)) ?_
    rintro _ _ ⟨rfl, rfl⟩
    refine q_op (dst := some 11) rfl (fun _ ho => ok_move ho (.tmp rfl)) ?_
    try dsimp only [HAct.put, List.set_cons_zero, List.set_cons_succ]
    refine q_op (dst := some 15) rfl (fun _ ho => ok_extract ho (.tmp rfl) rfl) ?_
    refine q_op (dst := some 16) rfl (fun _ ho => ok_extract ho (.tmp rfl) rfl) ?_
    refine q_op (dst := some 7) rfl (fun _ ho => ok_assign ho (.tmp rfl)) ?_
    refine q_op (dst := some 8) rfl (fun _ ho => ok_assign ho (.tmp rfl)) ?_
    refine hr_region_end ?_
    try dsimp only [HAct.put, List.set_cons_zero, List.set_cons_succ]
    refine q_seq e12 ?_
    refine q_block e13 ?_
    refine q_seq e14 ?_
    refine q_region e15 rfl ?_
    refine q_op (dst := some 31) rfl (fun _ ho => ok_move ho (.tmp rfl)) ?_
    refine q_op (dst := some 30) rfl (fun _ ho => ok_assign ho (.tmp rfl)) ?_
    refine hr_region_end ?_
    try dsimp only [HAct.put, List.set_cons_zero, List.set_cons_succ]
    rcases ifc h with ⟨hc3, h⟩ | ⟨hc3, h⟩
    · refine q_cond_t e16 (.tmp rfl) hc3 ?_
      refine q_region e17 rfl ?_
      refine q_op (dst := some 32) rfl (fun _ ho => ok_move ho (.tmp rfl)) ?_
      obtain ⟨p4, hp4, h⟩ := bindo h
      refine q_op (dst := some 33) rfl (fun _ ho => ok_nilCheck_p ho (.tmp rfl) hp4) ?_
      refine q_op (dst := some 34) rfl (fun _ ho => ok_fieldAddr_s ho fi87_1 (by decide) (.tmp rfl) rfl) ?_
      obtain ⟨p5, hp5, h⟩ := bindo h
      refine q_op (dst := some 35) rfl (fun _ ho => ok_load_s ho sc85 (.tmp rfl) rfl (ldSl_out hp5)) ?_
      try dsimp only [HAct.put, List.set_cons_zero, List.set_cons_succ]
      refine q_op (dst := some 36) rfl (fun _ ho => ok_move ho (.tmp rfl)) ?_
      refine q_op (dst := some 37) rfl (fun _ ho => ok_move ho (.tmp rfl)) ?_
      refine q_op (dst := some 38) rfl (fun _ ho => ok_move ho (.tmp rfl)) ?_
      refine q_op (dst := some 39) rfl (fun _ ho => ok_build (is := [0, 1]) (xs := [(.tmp 37), (.tmp 38)]) (r := [(.str x1), (.int .i64 x2)]) st90 ho rfl rfl (.cons (.tmp rfl) (.cons (.tmp rfl) Evs.nil)) rfl) ?_
      try dsimp only [HAct.put, List.set_cons_zero, List.set_cons_succ]
      obtain ⟨p6, hp6, h⟩ := bindo h
      refine q_op (dst := some 40) rfl (fun _ ho => ok_indexAddr (s := p5) ho tu85 sz90 (.tmp rfl) (.tmp rfl) hp6) ?_
      obtain ⟨p7, hp7, h⟩ := bindo h
      refine q_op (dst := none) rfl (fun _ ho => ok_store_s (v := (.agg [(.str x1), (.int .i64 x2)])) ho sz90 (.tmp rfl) rfl (.tmp rfl) rfl hp7) ?_
      refine hr_region_end ?_
      try dsimp only [HAct.put, List.set_cons_zero, List.set_cons_succ]
      refine hr_inBlock ?_
      try dsimp only [HAct.put, List.set_cons_zero, List.set_cons_succ]
      exact J0_snd hD hH h
    · refine q_cond_f e16 (.tmp rfl) (bfalse hc3) ?_
      refine q_seq e18 ?_
      refine x_start (cls := [0, 0, 0, 1, 0, 0, 0, 0, 1, 0, 0]) (rk := [0, 1, 2, 3, 4, 5, 6, 7, 8, 9, 10]) e19 (by kernel_rfl) ?_
      refine x_go (f_op (dst := some 42) (ts := [0]) rfl (by intro _ _ h; cases h) (by kernel_rfl) (fun _ _ ho => ok_move ho (.tmp rfl))) rfl ?_
      obtain ⟨p8, hp8, h⟩ := bindo h
      refine x_go (f_op (dst := some 43) (ts := [42]) rfl (by intro _ _ h; cases h) (by kernel_rfl) (fun _ _ ho => ok_nilCheck_p ho (.tmp rfl) hp8)) rfl ?_
      refine x_go (f_op (dst := some 44) (ts := [43]) rfl (by intro _ _ h; cases h) (by kernel_rfl) (fun _ _ ho => ok_fieldAddr_s ho fi87_1 (by decide) (.tmp rfl) rfl)) rfl ?_
      obtain ⟨p9, hp9, h⟩ := bindo h
      refine x_go (r_op (dst := some 45) (ts := [44]) rfl (by intro _ _ h; cases h) (by kernel_rfl) (fun _ ho => ok_load_s ho sc85 (.tmp rfl) rfl (ldSl_out hp9))) rfl ?_
      try dsimp only [HAct.put, List.set_cons_zero, List.set_cons_succ]
      refine x_go (f_op (dst := some 46) (ts := [45]) rfl (by intro _ _ h; cases h) (by kernel_rfl) (fun _ _ ho => ok_len_sl (q := Sl.a p9) (n := Sl.len p9) (z := Sl.cap p9) ho rfl tu85 (.tmp rfl))) rfl ?_
      refine x_go (f_op (dst := some 47) (ts := [0]) rfl (by intro _ _ h; cases h) (by kernel_rfl) (fun _ _ ho => ok_move ho (.tmp rfl))) rfl ?_
      obtain ⟨p10, hp10, h⟩ := bindo h
      refine x_go (f_op (dst := some 48) (ts := [47]) rfl (by intro _ _ h; cases h) (by kernel_rfl) (fun _ _ ho => ok_nilCheck_p ho (.tmp rfl) hp10)) rfl ?_
      refine x_go (f_op (dst := some 49) (ts := [48]) rfl (by intro _ _ h; cases h) (by kernel_rfl) (fun _ _ ho => ok_fieldAddr_s ho fi87_0 (by decide) (.tmp rfl) rfl)) rfl ?_
      try dsimp only [HAct.put, List.set_cons_zero, List.set_cons_succ]
      obtain ⟨p11, hp11, h⟩ := bindo h
      refine x_go (r_op (dst := some 50) (ts := [49]) rfl (by intro _ _ h; cases h) (by kernel_rfl) (fun _ ho => ok_load_s ho sc3 (.tmp rfl) rfl (ldI_out hp11))) rfl ?_
      refine x_go (f_op (dst := some 51) (ts := [46, 50]) rfl (by intro _ _ h; cases h) (by kernel_rfl) (fun _ _ ho => ok_ibin ho (.tmp rfl) (.tmp rfl) rfl)) rfl ?_
      refine x_go (f_op (dst := some 41) (ts := [51]) rfl (by intro _ _ h; cases h) (by kernel_rfl) (fun _ _ ho => ok_assign ho (.tmp rfl))) rfl ?_
      refine x_rest rfl ?_
      refine hr_region_end ?_
      try dsimp only [HAct.put, List.set_cons_zero, List.set_cons_succ]
      rcases ifc h with ⟨hc12, h⟩ | ⟨hc12, h⟩
      · refine q_cond_t e20 (.tmp rfl) (decide_eq_true hc12) ?_
        refine q_seq e21 ?_
        refine q_region e22 rfl ?_
        refine q_op (dst := some 6) rfl (fun _ ho => ok_assign ho (.int _ _)) ?_
        refine hr_region_end ?_
        try dsimp only [HAct.put, List.set_cons_zero, List.set_cons_succ]
        cases h
        exact q_ret e23 at_.at_ rfl (res1 rfl rfl) ⟨rfl, rfl⟩
      · refine q_cond_f e20 (.tmp rfl) (decide_eq_false hc12) ?_
        refine q_region e24 rfl ?_
        refine q_op (dst := some 17) rfl (fun _ ho => ok_move ho (.tmp rfl)) ?_
        refine q_op (dst := some 18) rfl (fun _ ho => ok_move ho (.tmp rfl)) ?_
        obtain ⟨p13, hp13, h⟩ := bindo h
        refine q_op (dst := some 19) rfl (fun _ ho => ok_nilCheck_p ho (.tmp rfl) hp13) ?_
        refine q_op (dst := some 20) rfl (fun _ ho => ok_fieldAddr_s ho fi87_1 (by decide) (.tmp rfl) rfl) ?_
        try dsimp only [HAct.put, List.set_cons_zero, List.set_cons_succ]
        obtain ⟨p14, hp14, h⟩ := bindo h
        refine q_op (dst := some 21) rfl (fun _ ho => ok_load_s ho sc85 (.tmp rfl) rfl (ldSl_out hp14)) ?_
        refine q_op (dst := some 22) rfl (fun _ ho => ok_move ho (.tmp rfl)) ?_
        refine q_op (dst := some 23) rfl (fun _ ho => ok_move ho (.tmp rfl)) ?_
        refine q_op (dst := some 24) rfl (fun _ ho => ok_move ho (.tmp rfl)) ?_
        try dsimp only [HAct.put, List.set_cons_zero, List.set_cons_succ]
        refine q_op (dst := some 25) rfl (fun _ ho => ok_build (is := [0, 1]) (xs := [(.tmp 23), (.tmp 24)]) (r := [(.str x1), (.int .i64 x2)]) st90 ho rfl rfl (.cons (.tmp rfl) (.cons (.tmp rfl) Evs.nil)) rfl) ?_
        obtain ⟨p15, hp15, h⟩ := leto h
        refine q_op (dst := some 26) rfl (fun _ ho => ok_buildSlice_s (xs := [(.tmp 25)]) el85 ho rfl rfl (by decide) (.cons (.tmp rfl) Evs.nil) rfl rfl hp15) ?_
        obtain ⟨p16, hp16, h⟩ := bindo h
        refine q_call (dst := some 27) rfl (.func _) (.cons (.tmp rfl) (.cons (.tmp rfl) (.cons (.tmp rfl) Evs.nil))) (HInv.static slices_Insert_book_entry_int_book_entry_int_w.at_ slices_Insert_book_entry_int_book_entry_int_w.body (slices_Insert_book_entry_int_book_entry_int_w.snd  hp16)) ?_
        rintro _ _ ⟨rfl, rfl⟩
        obtain ⟨p17, hp17, h⟩ := bindo h
        refine q_op (dst := some 28) rfl (fun _ ho => ok_nilCheck_p ho (.tmp rfl) hp17) ?_
        try dsimp only [HAct.put, List.set_cons_zero, List.set_cons_succ]
        refine q_op (dst := some 29) rfl (fun _ ho => ok_fieldAddr_s ho fi87_1 (by decide) (.tmp rfl) rfl) ?_
        obtain ⟨p18, hp18, h⟩ := bindo h
        refine q_op (dst := none) rfl (fun _ ho => ok_store_s (v := (Sl.hv p16.1)) ho sz85 (.tmp rfl) rfl (.tmp rfl) rfl hp18) ?_
        refine hr_region_end ?_
        try dsimp only [HAct.put, List.set_cons_zero, List.set_cons_succ]
        refine hr_inBlock ?_
        try dsimp only [HAct.put, List.set_cons_zero, List.set_cons_succ]
        exact J0_snd hD hH h
end
end book_Book_int_Put
namespace book_Book_int_Name
abbrev id : Nat := 26
theorem at_ : FnAt Try.prog 26 Try.f26 := ⟨Try.func26, by kernel_rfl⟩
noncomputable def c0 : Code := (Try.f26.body).getD .skip
noncomputable def c1 : Code := match c0 with | .seq x _ => x | _ => .skip
noncomputable def c2 : Code := match c0 with | .seq _ x => x | _ => .skip
noncomputable def c3 : Code := match c2 with | .seq x _ => x | _ => .skip
noncomputable def c4 : Code := match c2 with | .seq _ x => x | _ => .skip
noncomputable def c5 : Code := match c4 with | .seq x _ => x | _ => .skip
noncomputable def c6 : Code := match c5 with | .seq x _ => x | _ => .skip
noncomputable def c7 : Code := match c5 with | .seq _ x => x | _ => .skip
noncomputable def c8 : Code := match c7 with | .cond _ x _ => x | _ => .skip
noncomputable def c9 : Code := match c8 with | .seq x _ => x | _ => .skip
noncomputable def c10 : Code := match c8 with | .seq _ x => x | _ => .skip
noncomputable def c11 : Code := match c7 with | .cond _ _ x => x | _ => .skip
noncomputable def c12 : Code := match c4 with | .seq _ x => x | _ => .skip
noncomputable def c13 : Code := match c12 with | .seq x _ => x | _ => .skip
noncomputable def c14 : Code := match c12 with | .seq _ x => x | _ => .skip
theorem e0 : c0 = .seq c1 c2 := by kernel_rfl
noncomputable def r1 : Array Oper := match c1 with | .region _ x _ => x | _ => #[]
theorem e1 : c1 = .region 0 r1 false := by kernel_rfl
theorem e2 : c2 = .seq c3 c4 := by kernel_rfl
noncomputable def r3 : Array Oper := match c3 with | .region _ x _ => x | _ => #[]
theorem e3 : c3 = .region 1 r3 false := by kernel_rfl
theorem e4 : c4 = .seq c5 c12 := by kernel_rfl
theorem e5 : c5 = .seq c6 c7 := by kernel_rfl
noncomputable def r6 : Array Oper := match c6 with | .region _ x _ => x | _ => #[]
theorem e6 : c6 = .region 2 r6 false := by kernel_rfl
theorem e7 : c7 = .cond (.tmp 15) c8 c11 := by kernel_rfl
theorem e8 : c8 = .seq c9 c10 := by kernel_rfl
noncomputable def r9 : Array Oper := match c9 with | .region _ x _ => x | _ => #[]
theorem e9 : c9 = .region 3 r9 false := by kernel_rfl
theorem e10 : c10 = .ret := by kernel_rfl
theorem e11 : c11 = .skip := by kernel_rfl
theorem e12 : c12 = .seq c13 c14 := by kernel_rfl
noncomputable def r13 : Array Oper := match c13 with | .region _ x _ => x | _ => #[]
theorem e13 : c13 = .region 4 r13 false := by kernel_rfl
theorem e14 : c14 = .ret := by kernel_rfl
theorem body : Try.f26.body = some c0 := by kernel_rfl
section
variable {base : Nat} {W0 : World} {β0 : Bt}
def f (D : Dp) (H : Hd) (k : Nat) (x0 : (Option HA)) (x1 : (List UInt8)) (S : HS) : Option (((List UInt8) × Bool) × HS) :=
  (Option.bind (book_Book_int_at.f D H k x0 x1 S) fun p1 =>
  (if (!p1.1.2) = true then
  some ((([] : List UInt8), false), p1.2) else
  (Option.bind (x0) fun p3 =>
  (Option.bind (HS.ldSl p1.2 (HA.fld p3 1)) fun p4 =>
  (Option.bind (HS.idx p1.2 p4 p1.1.1 2) fun p5 =>
  (Option.bind (HS.ldS p1.2 (HA.fld p5 0)) fun p6 =>
  some ((p6, true), p1.2)))))))
theorem snd {D : Dp} {H : Hd} {k : Nat} {x0 : (Option HA)} {x1 : (List UInt8)} {S : HS} (hD : DSound Try.prog base W0 D) (hH : HSound Try.prog base W0 β0 H)  {p : ((List UInt8) × Bool) × HS} (h : f D H k x0 x1 S = some p) : HCall Try.prog base W0 β0 26 [(.ptr x0), (.str x1)] S (fun v S1 => v = (.tup [(.str p.1.1), (.bool p.1.2)]) ∧ S1 = p.2) := by
  unfold f at h
  refine HCall.of_run at_.at_ body ?_
  show HRun Try.prog base W0 β0 26 none [.code c0] ⟨[(.ptr x0), (.str x1), .tup [], .tup [], .tup [], .tup [], .tup [], .tup [], .tup [], .tup [], .tup [], .tup [], .tup [], .tup [], .tup [], .tup [], .tup [], .tup [], .tup [], .tup [], .tup [], .tup [], .tup [], .tup []], []⟩ S _
  refine q_seq e0 ?_
  refine q_region e1 rfl ?_
  refine q_op (dst := some 4) rfl (fun _ ho => ok_assign ho (.str _)) ?_
  refine q_op (dst := some 5) rfl (fun _ ho => ok_assign ho (.bool _)) ?_
  refine hr_region_end ?_
  try dsimp only [HAct.put, List.set_cons_zero, List.set_cons_succ]
  refine q_seq e2 ?_
  refine q_region e3 rfl ?_
  refine q_op (dst := some 9) rfl (fun _ ho => ok_move ho (.tmp rfl)) ?_
  refine q_op (dst := some 10) rfl (fun _ ho => ok_move ho (.tmp rfl)) ?_
  obtain ⟨p1, hp1, h⟩ := bindo h
  refine q_call (dst := some 11) rfl (.func _) (.cons (.tmp rfl) (.cons (.tmp rfl) Evs.nil)) (HInv.static book_Book_int_at.at_ book_Book_int_at.body (book_Book_int_at.snd hD hH hp1)) ?_
  rintro _ _ ⟨rfl, rfl⟩
  refine q_op (dst := some 8) rfl (fun _ ho => ok_move ho (.tmp rfl)) ?_
  try dsimp only [HAct.put, List.set_cons_zero, List.set_cons_succ]
  refine q_op (dst := some 12) rfl (fun _ ho => ok_extract ho (.tmp rfl) rfl) ?_
  refine q_op (dst := some 13) rfl (fun _ ho => ok_extract ho (.tmp rfl) rfl) ?_
  refine q_op (dst := some 6) rfl (fun _ ho => ok_assign ho (.tmp rfl)) ?_
  refine q_op (dst := some 7) rfl (fun _ ho => ok_assign ho (.tmp rfl)) ?_
  refine hr_region_end ?_
  try dsimp only [HAct.put, List.set_cons_zero, List.set_cons_succ]
  refine q_seq e4 ?_
  refine q_seq e5 ?_
  refine q_region e6 rfl ?_
  refine q_op (dst := some 14) rfl (fun _ ho => ok_move ho (.tmp rfl)) ?_
  refine q_op (dst := some 15) rfl (fun _ ho => ok_not ho (.tmp rfl)) ?_
  refine hr_region_end ?_
  try dsimp only [HAct.put, List.set_cons_zero, List.set_cons_succ]
  rcases ifc h with ⟨hc2, h⟩ | ⟨hc2, h⟩
  · refine q_cond_t e7 (.tmp rfl) hc2 ?_
    refine q_seq e8 ?_
    refine q_region e9 rfl ?_
    refine q_op (dst := some 4) rfl (fun _ ho => ok_assign ho (.str _)) ?_
    refine q_op (dst := some 5) rfl (fun _ ho => ok_assign ho (.bool _)) ?_
    refine hr_region_end ?_
    try dsimp only [HAct.put, List.set_cons_zero, List.set_cons_succ]
    cases h
    exact q_ret e10 at_.at_ rfl (res2 rfl rfl rfl) ⟨rfl, rfl⟩
  · refine q_cond_f e7 (.tmp rfl) (bfalse hc2) ?_
    refine q_skipc e11 ?_
    refine q_seq e12 ?_
    refine q_region e13 rfl ?_
    refine q_op (dst := some 16) rfl (fun _ ho => ok_move ho (.tmp rfl)) ?_
    obtain ⟨p3, hp3, h⟩ := bindo h
    refine q_op (dst := some 17) rfl (fun _ ho => ok_nilCheck_p ho (.tmp rfl) hp3) ?_
    refine q_op (dst := some 18) rfl (fun _ ho => ok_fieldAddr_s ho fi87_1 (by decide) (.tmp rfl) rfl) ?_
    obtain ⟨p4, hp4, h⟩ := bindo h
    refine q_op (dst := some 19) rfl (fun _ ho => ok_load_s ho sc85 (.tmp rfl) rfl (ldSl_out hp4)) ?_
    try dsimp only [HAct.put, List.set_cons_zero, List.set_cons_succ]
    refine q_op (dst := some 20) rfl (fun _ ho => ok_move ho (.tmp rfl)) ?_
    obtain ⟨p5, hp5, h⟩ := bindo h
    refine q_op (dst := some 21) rfl (fun _ ho => ok_indexAddr (s := p4) ho tu85 sz90 (.tmp rfl) (.tmp rfl) hp5) ?_
    refine q_op (dst := some 22) rfl (fun _ ho => ok_fieldAddr_s ho fi90_0 (by decide) (.tmp rfl) rfl) ?_
    obtain ⟨p6, hp6, h⟩ := bindo h
    refine q_op (dst := some 23) rfl (fun _ ho => ok_load_s ho sc9 (.tmp rfl) rfl (ldS_out hp6)) ?_
    try dsimp only [HAct.put, List.set_cons_zero, List.set_cons_succ]
    refine q_op (dst := some 4) rfl (fun _ ho => ok_assign ho (.tmp rfl)) ?_
    refine q_op (dst := some 5) rfl (fun _ ho => ok_assign ho (.bool _)) ?_
    refine hr_region_end ?_
    try dsimp only [HAct.put, List.set_cons_zero, List.set_cons_succ]
    cases h
    exact q_ret e14 at_.at_ rfl (res2 rfl rfl rfl) ⟨rfl, rfl⟩
end
end book_Book_int_Name
namespace book_Book_int_Len
abbrev id : Nat := 28
theorem at_ : FnAt Try.prog 28 Try.f28 := ⟨Try.func28, by kernel_rfl⟩
noncomputable def c0 : Code := (Try.f28.body).getD .skip
noncomputable def c1 : Code := match c0 with | .seq x _ => x | _ => .skip
noncomputable def c2 : Code := match c0 with | .seq _ x => x | _ => .skip
noncomputable def c3 : Code := match c2 with | .seq x _ => x | _ => .skip
noncomputable def c4 : Code := match c3 with | .seq x _ => x | _ => .skip
noncomputable def c5 : Code := match c3 with | .seq _ x => x | _ => .skip
noncomputable def c6 : Code := match c5 with | .cond _ x _ => x | _ => .skip
noncomputable def c7 : Code := match c6 with | .seq x _ => x | _ => .skip
noncomputable def c8 : Code := match c6 with | .seq _ x => x | _ => .skip
noncomputable def c9 : Code := match c5 with | .cond _ _ x => x | _ => .skip
noncomputable def c10 : Code := match c2 with | .seq _ x => x | _ => .skip
noncomputable def c11 : Code := match c10 with | .seq x _ => x | _ => .skip
noncomputable def c12 : Code := match c10 with | .seq _ x => x | _ => .skip
theorem e0 : c0 = .seq c1 c2 := by kernel_rfl
noncomputable def r1 : Array Oper := match c1 with | .region _ x _ => x | _ => #[]
theorem e1 : c1 = .region 0 r1 false := by kernel_rfl
theorem e2 : c2 = .seq c3 c10 := by kernel_rfl
theorem e3 : c3 = .seq c4 c5 := by kernel_rfl
noncomputable def r4 : Array Oper := match c4 with | .region _ x _ => x | _ => #[]
theorem e4 : c4 = .region 1 r4 false := by kernel_rfl
theorem e5 : c5 = .cond (.tmp 4) c6 c9 := by kernel_rfl
theorem e6 : c6 = .seq c7 c8 := by kernel_rfl
noncomputable def r7 : Array Oper := match c7 with | .region _ x _ => x | _ => #[]
theorem e7 : c7 = .region 2 r7 false := by kernel_rfl
theorem e8 : c8 = .ret := by kernel_rfl
theorem e9 : c9 = .skip := by kernel_rfl
theorem e10 : c10 = .seq c11 c12 := by kernel_rfl
noncomputable def r11 : Array Oper := match c11 with | .region _ x _ => x | _ => #[]
theorem e11 : c11 = .region 3 r11 false := by kernel_rfl
theorem e12 : c12 = .ret := by kernel_rfl
theorem body : Try.f28.body = some c0 := by kernel_rfl
section
variable {base : Nat} {W0 : World} {β0 : Bt}
def f (x0 : (Option HA)) (S : HS) : Option ((Int) × HS) :=
  (if (Option.isNone x0) = true then
  some (0, S) else
  (Option.bind (x0) fun p2 =>
  (Option.bind (HS.ldSl S (HA.fld p2 1)) fun p3 =>
  some ((Sl.len p3 : Int), S))))
theorem snd {x0 : (Option HA)} {S : HS}  {p : (Int) × HS} (h : f x0 S = some p) : HCall Try.prog base W0 β0 28 [(.ptr x0)] S (fun v S1 => v = (.int .i64 p.1) ∧ S1 = p.2) := by
  unfold f at h
  refine HCall.of_run at_.at_ body ?_
  show HRun Try.prog base W0 β0 28 none [.code c0] ⟨[(.ptr x0), .tup [], .tup [], .tup [], .tup [], .tup [], .tup [], .tup [], .tup [], .tup []], []⟩ S _
  refine q_seq e0 ?_
  refine q_region e1 rfl ?_
  refine q_op (dst := some 2) rfl (fun _ ho => ok_assign ho (.int _ _)) ?_
  refine hr_region_end ?_
  try dsimp only [HAct.put, List.set_cons_zero, List.set_cons_succ]
  refine q_seq e2 ?_
  refine q_seq e3 ?_
  refine q_region e4 rfl ?_
  refine q_op (dst := some 3) rfl (fun _ ho => ok_move ho (.tmp rfl)) ?_
  refine q_op (dst := some 4) rfl (fun _ ho => ok_nil_ptr ho tu44 (.tmp rfl) (.inl ⟨rfl, rfl⟩)) ?_
  refine hr_region_end ?_
  try dsimp only [HAct.put, List.set_cons_zero, List.set_cons_succ]
  rcases ifc h with ⟨hc1, h⟩ | ⟨hc1, h⟩
  · refine q_cond_t e5 (.tmp rfl) hc1 ?_
    refine q_seq e6 ?_
    refine q_region e7 rfl ?_
    refine q_op (dst := some 2) rfl (fun _ ho => ok_assign ho (.int _ _)) ?_
    refine hr_region_end ?_
    try dsimp only [HAct.put, List.set_cons_zero, List.set_cons_succ]
    cases h
    exact q_ret e8 at_.at_ rfl (res1 rfl rfl) ⟨rfl, rfl⟩
  · refine q_cond_f e5 (.tmp rfl) (bfalse hc1) ?_
    refine q_skipc e9 ?_
    refine q_seq e10 ?_
    refine q_region e11 rfl ?_
    refine q_op (dst := some 5) rfl (fun _ ho => ok_move ho (.tmp rfl)) ?_
    obtain ⟨p2, hp2, h⟩ := bindo h
    refine q_op (dst := some 6) rfl (fun _ ho => ok_nilCheck_p ho (.tmp rfl) hp2) ?_
    refine q_op (dst := some 7) rfl (fun _ ho => ok_fieldAddr_s ho fi87_1 (by decide) (.tmp rfl) rfl) ?_
    obtain ⟨p3, hp3, h⟩ := bindo h
    refine q_op (dst := some 8) rfl (fun _ ho => ok_load_s ho sc85 (.tmp rfl) rfl (ldSl_out hp3)) ?_
    try dsimp only [HAct.put, List.set_cons_zero, List.set_cons_succ]
    refine q_op (dst := some 9) rfl (fun _ ho => ok_len_sl (q := Sl.a p3) (n := Sl.len p3) (z := Sl.cap p3) ho rfl tu85 (.tmp rfl)) ?_
    refine q_op (dst := some 2) rfl (fun _ ho => ok_assign ho (.tmp rfl)) ?_
    refine hr_region_end ?_
    try dsimp only [HAct.put, List.set_cons_zero, List.set_cons_succ]
    cases h
    exact q_ret e12 at_.at_ rfl (res1 rfl rfl) ⟨rfl, rfl⟩
end
end book_Book_int_Len
namespace rollcalllaw02_awake
abbrev id : Nat := 7
theorem at_ : FnAt Try.prog 7 Try.f7 := ⟨Try.func7, by kernel_rfl⟩
noncomputable def c0 : Code := (Try.f7.body).getD .skip
noncomputable def c1 : Code := match c0 with | .seq x _ => x | _ => .skip
noncomputable def c2 : Code := match c0 with | .seq _ x => x | _ => .skip
noncomputable def c3 : Code := match c2 with | .seq x _ => x | _ => .skip
noncomputable def c4 : Code := match c2 with | .seq _ x => x | _ => .skip
noncomputable def c5 : Code := match c4 with | .seq x _ => x | _ => .skip
noncomputable def c6 : Code := match c5 with | .seq x _ => x | _ => .skip
noncomputable def c7 : Code := match c5 with | .seq _ x => x | _ => .skip
noncomputable def c8 : Code := match c7 with | .cond _ x _ => x | _ => .skip
noncomputable def c9 : Code := match c8 with | .seq x _ => x | _ => .skip
noncomputable def c10 : Code := match c8 with | .seq _ x => x | _ => .skip
noncomputable def c11 : Code := match c7 with | .cond _ _ x => x | _ => .skip
noncomputable def c12 : Code := match c4 with | .seq _ x => x | _ => .skip
noncomputable def c13 : Code := match c12 with | .seq x _ => x | _ => .skip
noncomputable def c14 : Code := match c12 with | .seq _ x => x | _ => .skip
noncomputable def c15 : Code := match c14 with | .seq x _ => x | _ => .skip
noncomputable def c16 : Code := match c14 with | .seq _ x => x | _ => .skip
theorem e0 : c0 = .seq c1 c2 := by kernel_rfl
noncomputable def r1 : Array Oper := match c1 with | .region _ x _ => x | _ => #[]
theorem e1 : c1 = .region 0 r1 false := by kernel_rfl
theorem e2 : c2 = .seq c3 c4 := by kernel_rfl
noncomputable def r3 : Array Oper := match c3 with | .region _ x _ => x | _ => #[]
theorem e3 : c3 = .region 1 r3 false := by kernel_rfl
theorem e4 : c4 = .seq c5 c12 := by kernel_rfl
theorem e5 : c5 = .seq c6 c7 := by kernel_rfl
noncomputable def r6 : Array Oper := match c6 with | .region _ x _ => x | _ => #[]
theorem e6 : c6 = .region 2 r6 false := by kernel_rfl
theorem e7 : c7 = .cond (.tmp 20) c8 c11 := by kernel_rfl
theorem e8 : c8 = .seq c9 c10 := by kernel_rfl
noncomputable def r9 : Array Oper := match c9 with | .region _ x _ => x | _ => #[]
theorem e9 : c9 = .region 3 r9 false := by kernel_rfl
theorem e10 : c10 = .ret := by kernel_rfl
theorem e11 : c11 = .skip := by kernel_rfl
theorem e12 : c12 = .seq c13 c14 := by kernel_rfl
noncomputable def r13 : Array Oper := match c13 with | .region _ x _ => x | _ => #[]
theorem e13 : c13 = .region 4 r13 false := by kernel_rfl
theorem e14 : c14 = .seq c15 c16 := by kernel_rfl
noncomputable def r15 : Array Oper := match c15 with | .region _ x _ => x | _ => #[]
theorem e15 : c15 = .region 5 r15 false := by kernel_rfl
theorem e16 : c16 = .ret := by kernel_rfl
theorem body : Try.f7.body = some c0 := by kernel_rfl
section
variable {base : Nat} {W0 : World} {β0 : Bt}
def J3 (D : Dp) (H : Hd) (k : Nat) (y35 : Bool) (S : HS) : Option ((Bool) × HS) :=
  some (y35, S)
theorem J3_snd {D : Dp} {H : Hd} {k : Nat} (hD : DSound Try.prog base W0 D) (hH : HSound Try.prog base W0 β0 H)  {y35 : Bool} {S : HS} {p : (Bool) × HS} {g0 g1 g2 g3 g4 g5 g6 g7 g8 g9 g10 g11 g12 g13 g14 g15 g16 g17 g18 g19 g20 g21 g22 g23 g24 g25 g26 g27 g28 g29 g30 g31 g32 g33 g34 : HV} (h : J3 D H k y35 S = some p) : HRun Try.prog base W0 β0 7 none [.inRegion r15 [10], .code c16] ⟨[g0, g1, g2, g3, g4, g5, g6, g7, g8, g9, g10, g11, g12, g13, g14, g15, g16, g17, g18, g19, g20, g21, g22, g23, g24, g25, g26, g27, g28, g29, g30, g31, g32, g33, g34, (.bool y35)], []⟩ S (fun v S1 => v = (.bool p.1) ∧ S1 = p.2) := by
  unfold J3 at h
  refine q_op (dst := some 0) rfl (fun _ ho => ok_assign ho (.tmp rfl)) ?_
  refine hr_region_end ?_
  try dsimp only [HAct.put, List.set_cons_zero, List.set_cons_succ]
  cases h
  exact q_ret e16 at_.at_ rfl (res1 rfl rfl) ⟨rfl, rfl⟩
def J2 (D : Dp) (H : Hd) (k : Nat) (y1 : (Option HA)) (y30 : Bool) (S : HS) : Option ((Bool) × HS) :=
  (if y30 = true then
  (Option.bind (book_Book_int_Len.f y1 S) fun p8 =>
  J3 D H k (decide (p8.1 = 1)) p8.2) else
  J3 D H k false S)
theorem J2_snd {D : Dp} {H : Hd} {k : Nat} (hD : DSound Try.prog base W0 D) (hH : HSound Try.prog base W0 β0 H)  {y1 : (Option HA)} {y30 : Bool} {S : HS} {p : (Bool) × HS} {g0 g2 g3 g4 g5 g6 g7 g8 g9 g10 g11 g12 g13 g14 g15 g16 g17 g18 g19 g20 g21 g22 g23 g24 g25 g26 g27 g28 g29 g31 g32 g33 g34 g35 : HV} (h : J2 D H k y1 y30 S = some p) : HRun Try.prog base W0 β0 7 none [.inRegion r15 [5, 6, 7, 8, 9, 10], .code c16] ⟨[g0, (.ptr y1), g2, g3, g4, g5, g6, g7, g8, g9, g10, g11, g12, g13, g14, g15, g16, g17, g18, g19, g20, g21, g22, g23, g24, g25, g26, g27, g28, g29, (.bool y30), g31, g32, g33, g34, g35], []⟩ S (fun v S1 => v = (.bool p.1) ∧ S1 = p.2) := by
  unfold J2 at h
  refine q_op (dst := some 31) rfl (fun _ ho => ok_move ho (.tmp rfl)) ?_
  rcases ifc h with ⟨hc7, h⟩ | ⟨hc7, h⟩
  · refine q_op_g (t := 31) (dst := some 32) rfl rfl rfl hc7 (fun _ ho => ok_move ho (.tmp rfl)) ?_
    obtain ⟨p8, hp8, h⟩ := bindo h
    refine q_call_g (t := 31) (dst := some 33) rfl rfl rfl hc7 (.func _) (.cons (.tmp rfl) Evs.nil) (HInv.static book_Book_int_Len.at_ book_Book_int_Len.body (book_Book_int_Len.snd  hp8)) ?_
    rintro _ _ ⟨rfl, rfl⟩
    try dsimp only [HAct.put, List.set_cons_zero, List.set_cons_succ]
    refine q_op_g (t := 31) (dst := some 34) rfl rfl rfl hc7 (fun _ ho => ok_ibin ho (.tmp rfl) (.int _ _) rfl) ?_
    refine q_op (dst := some 35) rfl (fun _ ho => ok_pick_tt ho (.tmp rfl) hc7 (.tmp rfl)) ?_
    try dsimp only [HAct.put, List.set_cons_zero, List.set_cons_succ]
    exact J3_snd hD hH h
  · refine q_skip (dst := some 32) (t := 31) rfl rfl rfl (bfalse hc7) ?_
    refine q_skip (dst := some 33) (t := 31) rfl rfl rfl (bfalse hc7) ?_
    try dsimp only [HAct.put, List.set_cons_zero, List.set_cons_succ]
    refine q_skip (dst := some 34) (t := 31) rfl rfl rfl (bfalse hc7) ?_
    refine q_op (dst := some 35) rfl (fun _ ho => ok_pick_ff ho (.tmp rfl) (bfalse hc7) (.bool _)) ?_
    try dsimp only [HAct.put, List.set_cons_zero, List.set_cons_succ]
    exact J3_snd hD hH h
def J1 (D : Dp) (H : Hd) (k : Nat) (y1 : (Option HA)) (y20 : Bool) (S : HS) : Option ((Bool) × HS) :=
  (if y20 = true then
  some (false, S) else
  (Option.bind (book_Book_int_Name.f D H k y1 ([78, 73, 67, 75, 91] : List UInt8) S) fun p5 =>
  (if p5.1.2 = true then
  J2 D H k y1 (decide (p5.1.1 = ([110, 73, 67, 75, 123] : List UInt8))) p5.2 else
  J2 D H k y1 false p5.2)))
theorem J1_snd {D : Dp} {H : Hd} {k : Nat} (hD : DSound Try.prog base W0 D) (hH : HSound Try.prog base W0 β0 H)  {y1 : (Option HA)} {y20 : Bool} {S : HS} {p : (Bool) × HS} {g0 g2 g3 g4 g5 g6 g7 g8 g9 g10 g11 g12 g13 g14 g15 g16 g17 g18 g19 g21 g22 g23 g24 g25 g26 g27 g28 g29 g30 g31 g32 g33 g34 g35 : HV} (h : J1 D H k y1 y20 S = some p) : HRun Try.prog base W0 β0 7 none [.code c7, .code c12] ⟨[g0, (.ptr y1), g2, g3, g4, g5, g6, g7, g8, g9, g10, g11, g12, g13, g14, g15, g16, g17, g18, g19, (.bool y20), g21, g22, g23, g24, g25, g26, g27, g28, g29, g30, g31, g32, g33, g34, g35], []⟩ S (fun v S1 => v = (.bool p.1) ∧ S1 = p.2) := by
  unfold J1 at h
  rcases ifc h with ⟨hc4, h⟩ | ⟨hc4, h⟩
  · refine q_cond_t e7 (.tmp rfl) hc4 ?_
    refine q_seq e8 ?_
    refine q_region e9 rfl ?_
    refine q_op (dst := some 0) rfl (fun _ ho => ok_assign ho (.bool _)) ?_
    refine hr_region_end ?_
    try dsimp only [HAct.put, List.set_cons_zero, List.set_cons_succ]
    cases h
    exact q_ret e10 at_.at_ rfl (res1 rfl rfl) ⟨rfl, rfl⟩
  · refine q_cond_f e7 (.tmp rfl) (bfalse hc4) ?_
    refine q_skipc e11 ?_
    refine q_seq e12 ?_
    refine q_region e13 rfl ?_
    refine q_op (dst := some 22) rfl (fun _ ho => ok_move ho (.tmp rfl)) ?_
    obtain ⟨p5, hp5, h⟩ := bindo h
    refine q_call (dst := some 23) rfl (.func _) (.cons (.tmp rfl) (.cons (.str _) Evs.nil)) (HInv.static book_Book_int_Name.at_ book_Book_int_Name.body (book_Book_int_Name.snd hD hH hp5)) ?_
    rintro _ _ ⟨rfl, rfl⟩
    refine q_op (dst := some 21) rfl (fun _ ho => ok_move ho (.tmp rfl)) ?_
    refine q_op (dst := some 24) rfl (fun _ ho => ok_extract ho (.tmp rfl) rfl) ?_
    try dsimp only [HAct.put, List.set_cons_zero, List.set_cons_succ]
    refine q_op (dst := some 25) rfl (fun _ ho => ok_extract ho (.tmp rfl) rfl) ?_
    refine q_op (dst := some 3) rfl (fun _ ho => ok_assign ho (.tmp rfl)) ?_
    refine q_op (dst := some 4) rfl (fun _ ho => ok_assign ho (.tmp rfl)) ?_
    refine hr_region_end ?_
    try dsimp only [HAct.put, List.set_cons_zero, List.set_cons_succ]
    refine q_seq e14 ?_
    refine q_region e15 rfl ?_
    refine q_op (dst := some 26) rfl (fun _ ho => ok_move ho (.tmp rfl)) ?_
    refine q_op (dst := some 27) rfl (fun _ ho => ok_move ho (.tmp rfl)) ?_
    rcases ifc h with ⟨hc6, h⟩ | ⟨hc6, h⟩
    · refine q_op_g (t := 27) (dst := some 28) rfl rfl rfl hc6 (fun _ ho => ok_move ho (.tmp rfl)) ?_
      refine q_op_g (t := 27) (dst := some 29) rfl rfl rfl hc6 (fun _ ho => ok_sbin ho (.tmp rfl) (.str _) rfl) ?_
      try dsimp only [HAct.put, List.set_cons_zero, List.set_cons_succ]
      refine q_op (dst := some 30) rfl (fun _ ho => ok_pick_tt ho (.tmp rfl) hc6 (.tmp rfl)) ?_
      try dsimp only [HAct.put, List.set_cons_zero, List.set_cons_succ]
      exact J2_snd hD hH h
    · refine q_skip (dst := some 28) (t := 27) rfl rfl rfl (bfalse hc6) ?_
      refine q_skip (dst := some 29) (t := 27) rfl rfl rfl (bfalse hc6) ?_
      try dsimp only [HAct.put, List.set_cons_zero, List.set_cons_succ]
      refine q_op (dst := some 30) rfl (fun _ ho => ok_pick_ff ho (.tmp rfl) (bfalse hc6) (.bool _)) ?_
      try dsimp only [HAct.put, List.set_cons_zero, List.set_cons_succ]
      exact J2_snd hD hH h
def J0 (D : Dp) (H : Hd) (k : Nat) (y1 : (Option HA)) (y15 : Bool) (S : HS) : Option ((Bool) × HS) :=
  (if y15 = true then
  J1 D H k y1 true S else
  (Option.bind (book_Book_int_Put.f D H k y1 ([110, 73, 67, 75, 123] : List UInt8) 2 S) fun p9 =>
  J1 D H k y1 (!decide (p9.1 = 0)) p9.2))
theorem J0_snd {D : Dp} {H : Hd} {k : Nat} (hD : DSound Try.prog base W0 D) (hH : HSound Try.prog base W0 β0 H)  {y1 : (Option HA)} {y15 : Bool} {S : HS} {p : (Bool) × HS} {g0 g2 g3 g4 g5 g6 g7 g8 g9 g10 g11 g12 g13 g14 g16 g17 g18 g19 g20 g21 g22 g23 g24 g25 g26 g27 g28 g29 g30 g31 g32 g33 g34 g35 : HV} (h : J0 D H k y1 y15 S = some p) : HRun Try.prog base W0 β0 7 none [.inRegion r6 [7, 8, 9, 10, 11], .code c7, .code c12] ⟨[g0, (.ptr y1), g2, g3, g4, g5, g6, g7, g8, g9, g10, g11, g12, g13, g14, (.bool y15), g16, g17, g18, g19, g20, g21, g22, g23, g24, g25, g26, g27, g28, g29, g30, g31, g32, g33, g34, g35], []⟩ S (fun v S1 => v = (.bool p.1) ∧ S1 = p.2) := by
  unfold J0 at h
  refine q_op (dst := some 16) rfl (fun _ ho => ok_move ho (.tmp rfl)) ?_
  try dsimp only [HAct.put, List.set_cons_zero, List.set_cons_succ]
  rcases ifc h with ⟨hc3, h⟩ | ⟨hc3, h⟩
  · refine q_skip (dst := some 17) (t := 16) rfl rfl rfl hc3 ?_
    refine q_skip (dst := some 18) (t := 16) rfl rfl rfl hc3 ?_
    refine q_skip (dst := some 19) (t := 16) rfl rfl rfl hc3 ?_
    refine q_op (dst := some 20) rfl (fun _ ho => ok_pick_tt ho (.tmp rfl) hc3 (.bool _)) ?_
    refine hr_region_end ?_
    try dsimp only [HAct.put, List.set_cons_zero, List.set_cons_succ]
    try dsimp only [HAct.put, List.set_cons_zero, List.set_cons_succ]
    exact J1_snd hD hH h
  · refine q_op_g (t := 16) (dst := some 17) rfl rfl rfl (bfalse hc3) (fun _ ho => ok_move ho (.tmp rfl)) ?_
    obtain ⟨p9, hp9, h⟩ := bindo h
    refine q_call_g (t := 16) (dst := some 18) rfl rfl rfl (bfalse hc3) (.func _) (.cons (.tmp rfl) (.cons (.str _) (.cons (.int _ _) Evs.nil))) (HInv.static book_Book_int_Put.at_ book_Book_int_Put.body (book_Book_int_Put.snd hD hH hp9)) ?_
    rintro _ _ ⟨rfl, rfl⟩
    refine q_op_g (t := 16) (dst := some 19) rfl rfl rfl (bfalse hc3) (fun _ ho => ok_ibin ho (.tmp rfl) (.int _ _) rfl) ?_
    refine q_op (dst := some 20) rfl (fun _ ho => ok_pick_ff ho (.tmp rfl) (bfalse hc3) (.tmp rfl)) ?_
    refine hr_region_end ?_
    try dsimp only [HAct.put, List.set_cons_zero, List.set_cons_succ]
    try dsimp only [HAct.put, List.set_cons_zero, List.set_cons_succ]
    exact J1_snd hD hH h
def f (D : Dp) (H : Hd) (k : Nat) (S : HS) : Option ((Bool) × HS) :=
  (Option.bind (book_New_int.f 2 S) fun p1 =>
  (if (!decide (p1.1.2 = 0)) = true then
  J0 D H k p1.1.1 true p1.2 else
  (Option.bind (book_Book_int_Put.f D H k p1.1.1 ([78, 105, 99, 107, 91] : List UInt8) 1 p1.2) fun p10 =>
  J0 D H k p1.1.1 (!decide (p10.1 = 0)) p10.2)))
theorem snd {D : Dp} {H : Hd} {k : Nat} {S : HS} (hD : DSound Try.prog base W0 D) (hH : HSound Try.prog base W0 β0 H)  {p : (Bool) × HS} (h : f D H k S = some p) : HCall Try.prog base W0 β0 7 [] S (fun v S1 => v = (.bool p.1) ∧ S1 = p.2) := by
  unfold f at h
  refine HCall.of_run at_.at_ body ?_
  show HRun Try.prog base W0 β0 7 none [.code c0] ⟨[.tup [], .tup [], .tup [], .tup [], .tup [], .tup [], .tup [], .tup [], .tup [], .tup [], .tup [], .tup [], .tup [], .tup [], .tup [], .tup [], .tup [], .tup [], .tup [], .tup [], .tup [], .tup [], .tup [], .tup [], .tup [], .tup [], .tup [], .tup [], .tup [], .tup [], .tup [], .tup [], .tup [], .tup [], .tup [], .tup []], []⟩ S _
  refine q_seq e0 ?_
  refine q_region e1 rfl ?_
  refine q_op (dst := some 0) rfl (fun _ ho => ok_assign ho (.bool _)) ?_
  refine hr_region_end ?_
  try dsimp only [HAct.put, List.set_cons_zero, List.set_cons_succ]
  refine q_seq e2 ?_
  refine q_region e3 rfl ?_
  obtain ⟨p1, hp1, h⟩ := bindo h
  refine q_call (dst := some 6) rfl (.func _) (.cons (.int _ _) Evs.nil) (HInv.static book_New_int.at_ book_New_int.body (book_New_int.snd  hp1)) ?_
  rintro _ _ ⟨rfl, rfl⟩
  refine q_op (dst := some 5) rfl (fun _ ho => ok_move ho (.tmp rfl)) ?_
  refine q_op (dst := some 7) rfl (fun _ ho => ok_extract ho (.tmp rfl) rfl) ?_
  refine q_op (dst := some 8) rfl (fun _ ho => ok_extract ho (.tmp rfl) rfl) ?_
  try dsimp only [HAct.put, List.set_cons_zero, List.set_cons_succ]
  refine q_op (dst := some 1) rfl (fun _ ho => ok_assign ho (.tmp rfl)) ?_
  refine q_op (dst := some 2) rfl (fun _ ho => ok_assign ho (.tmp rfl)) ?_
  refine hr_region_end ?_
  try dsimp only [HAct.put, List.set_cons_zero, List.set_cons_succ]
  refine q_seq e4 ?_
  refine q_seq e5 ?_
  refine q_region e6 rfl ?_
  refine q_op (dst := some 9) rfl (fun _ ho => ok_move ho (.tmp rfl)) ?_
  refine q_op (dst := some 10) rfl (fun _ ho => ok_ibin ho (.tmp rfl) (.int _ _) rfl) ?_
  refine q_op (dst := some 11) rfl (fun _ ho => ok_move ho (.tmp rfl)) ?_
  rcases ifc h with ⟨hc2, h⟩ | ⟨hc2, h⟩
  · refine q_skip (dst := some 12) (t := 11) rfl rfl rfl hc2 ?_
    try dsimp only [HAct.put, List.set_cons_zero, List.set_cons_succ]
    refine q_skip (dst := some 13) (t := 11) rfl rfl rfl hc2 ?_
    refine q_skip (dst := some 14) (t := 11) rfl rfl rfl hc2 ?_
    refine q_op (dst := some 15) rfl (fun _ ho => ok_pick_tt ho (.tmp rfl) hc2 (.bool _)) ?_
    try dsimp only [HAct.put, List.set_cons_zero, List.set_cons_succ]
    exact J0_snd hD hH h
  · refine q_op_g (t := 11) (dst := some 12) rfl rfl rfl (bfalse hc2) (fun _ ho => ok_move ho (.tmp rfl)) ?_
    try dsimp only [HAct.put, List.set_cons_zero, List.set_cons_succ]
    obtain ⟨p10, hp10, h⟩ := bindo h
    refine q_call_g (t := 11) (dst := some 13) rfl rfl rfl (bfalse hc2) (.func _) (.cons (.tmp rfl) (.cons (.str _) (.cons (.int _ _) Evs.nil))) (HInv.static book_Book_int_Put.at_ book_Book_int_Put.body (book_Book_int_Put.snd hD hH hp10)) ?_
    rintro _ _ ⟨rfl, rfl⟩
    refine q_op_g (t := 11) (dst := some 14) rfl rfl rfl (bfalse hc2) (fun _ ho => ok_ibin ho (.tmp rfl) (.int _ _) rfl) ?_
    refine q_op (dst := some 15) rfl (fun _ ho => ok_pick_ff ho (.tmp rfl) (bfalse hc2) (.tmp rfl)) ?_
    try dsimp only [HAct.put, List.set_cons_zero, List.set_cons_succ]
    exact J0_snd hD hH h
end
end rollcalllaw02_awake
namespace rollcalllaw02_great
abbrev id : Nat := 19
theorem at_ : FnAt Try.prog 19 Try.f19 := ⟨Try.func19, by kernel_rfl⟩
noncomputable def c0 : Code := (Try.f19.body).getD .skip
noncomputable def c1 : Code := match c0 with | .seq x _ => x | _ => .skip
noncomputable def c2 : Code := match c0 with | .seq _ x => x | _ => .skip
noncomputable def c3 : Code := match c2 with | .seq x _ => x | _ => .skip
noncomputable def c4 : Code := match c3 with | .seq x _ => x | _ => .skip
noncomputable def c5 : Code := match c3 with | .seq _ x => x | _ => .skip
noncomputable def c6 : Code := match c5 with | .cond _ x _ => x | _ => .skip
noncomputable def c7 : Code := match c6 with | .seq x _ => x | _ => .skip
noncomputable def c8 : Code := match c6 with | .seq _ x => x | _ => .skip
noncomputable def c9 : Code := match c5 with | .cond _ _ x => x | _ => .skip
noncomputable def c10 : Code := match c2 with | .seq _ x => x | _ => .skip
noncomputable def c11 : Code := match c10 with | .seq x _ => x | _ => .skip
noncomputable def c12 : Code := match c11 with | .seq x _ => x | _ => .skip
noncomputable def c13 : Code := match c11 with | .seq _ x => x | _ => .skip
noncomputable def c14 : Code := match c13 with | .block _ x => x | _ => .skip
noncomputable def c15 : Code := match c14 with | .loop x => x | _ => .skip
noncomputable def c16 : Code := match c15 with | .seq x _ => x | _ => .skip
noncomputable def c17 : Code := match c16 with | .seq x _ => x | _ => .skip
noncomputable def c18 : Code := match c16 with | .seq _ x => x | _ => .skip
noncomputable def c19 : Code := match c18 with | .cond _ x _ => x | _ => .skip
noncomputable def c20 : Code := match c18 with | .cond _ _ x => x | _ => .skip
noncomputable def c21 : Code := match c15 with | .seq _ x => x | _ => .skip
noncomputable def c22 : Code := match c21 with | .seq x _ => x | _ => .skip
noncomputable def c23 : Code := match c22 with | .block _ x => x | _ => .skip
noncomputable def c24 : Code := match c23 with | .seq x _ => x | _ => .skip
noncomputable def c25 : Code := match c23 with | .seq _ x => x | _ => .skip
noncomputable def c26 : Code := match c25 with | .cond _ x _ => x | _ => .skip
noncomputable def c27 : Code := match c26 with | .seq x _ => x | _ => .skip
noncomputable def c28 : Code := match c26 with | .seq _ x => x | _ => .skip
noncomputable def c29 : Code := match c25 with | .cond _ _ x => x | _ => .skip
noncomputable def c30 : Code := match c21 with | .seq _ x => x | _ => .skip
noncomputable def c31 : Code := match c10 with | .seq _ x => x | _ => .skip
noncomputable def c32 : Code := match c31 with | .seq x _ => x | _ => .skip
noncomputable def c33 : Code := match c31 with | .seq _ x => x | _ => .skip
theorem e0 : c0 = .seq c1 c2 := by kernel_rfl
noncomputable def r1 : Array Oper := match c1 with | .region _ x _ => x | _ => #[]
theorem e1 : c1 = .region 0 r1 false := by kernel_rfl
theorem e2 : c2 = .seq c3 c10 := by kernel_rfl
theorem e3 : c3 = .seq c4 c5 := by kernel_rfl
noncomputable def r4 : Array Oper := match c4 with | .region _ x _ => x | _ => #[]
theorem e4 : c4 = .region 1 r4 false := by kernel_rfl
theorem e5 : c5 = .cond (.tmp 6) c6 c9 := by kernel_rfl
theorem e6 : c6 = .seq c7 c8 := by kernel_rfl
noncomputable def r7 : Array Oper := match c7 with | .region _ x _ => x | _ => #[]
theorem e7 : c7 = .region 2 r7 false := by kernel_rfl
theorem e8 : c8 = .ret := by kernel_rfl
theorem e9 : c9 = .skip := by kernel_rfl
theorem e10 : c10 = .seq c11 c31 := by kernel_rfl
theorem e11 : c11 = .seq c12 c13 := by kernel_rfl
noncomputable def r12 : Array Oper := match c12 with | .region _ x _ => x | _ => #[]
theorem e12 : c12 = .region 3 r12 false := by kernel_rfl
theorem e13 : c13 = .block 0 c14 := by kernel_rfl
theorem e14 : c14 = .loop c15 := by kernel_rfl
theorem e15 : c15 = .seq c16 c21 := by kernel_rfl
theorem e16 : c16 = .seq c17 c18 := by kernel_rfl
noncomputable def r17 : Array Oper := match c17 with | .region _ x _ => x | _ => #[]
theorem e17 : c17 = .region 4 r17 false := by kernel_rfl
theorem e18 : c18 = .cond (.tmp 10) c19 c20 := by kernel_rfl
theorem e19 : c19 = .skip := by kernel_rfl
theorem e20 : c20 = .exit 0 := by kernel_rfl
theorem e21 : c21 = .seq c22 c30 := by kernel_rfl
theorem e22 : c22 = .block 1 c23 := by kernel_rfl
theorem e23 : c23 = .seq c24 c25 := by kernel_rfl
noncomputable def r24 : Array Oper := match c24 with | .region _ x _ => x | _ => #[]
theorem e24 : c24 = .region 6 r24 false := by kernel_rfl
theorem e25 : c25 = .cond (.tmp 19) c26 c29 := by kernel_rfl
theorem e26 : c26 = .seq c27 c28 := by kernel_rfl
noncomputable def r27 : Array Oper := match c27 with | .region _ x _ => x | _ => #[]
theorem e27 : c27 = .region 7 r27 false := by kernel_rfl
theorem e28 : c28 = .ret := by kernel_rfl
theorem e29 : c29 = .skip := by kernel_rfl
noncomputable def r30 : Array Oper := match c30 with | .region _ x _ => x | _ => #[]
theorem e30 : c30 = .region 5 r30 false := by kernel_rfl
theorem e31 : c31 = .seq c32 c33 := by kernel_rfl
noncomputable def r32 : Array Oper := match c32 with | .region _ x _ => x | _ => #[]
theorem e32 : c32 = .region 8 r32 false := by kernel_rfl
theorem e33 : c33 = .ret := by kernel_rfl
theorem body : Try.f19.body = some c0 := by kernel_rfl
section
variable {base : Nat} {W0 : World} {β0 : Bt}
def L0 (k : Nat) : Nat → Sl → Int → HS → Option ((Bool) × HS)
  | 0, _, _, _ => none
  | n + 1, y0, y3, S =>
    (if y3 < (Sl.len y0 : Int) then
    (Option.bind (HS.idx S y0 y3 3) fun p3 =>
    (Option.bind (HS.ldS S (HA.fld p3 1)) fun p4 =>
    (if (List.length p4 : Int) > 30 then
    some (true, S) else
    (L0 k n) y0 (w64 (y3 + 1)) S))) else
    some (false, S))
theorem L0_snd {k : Nat}  : ∀ {n : Nat} ⦃y0 : Sl⦄ ⦃y3 : Int⦄ ⦃S : HS⦄ ⦃p : (Bool) × HS⦄ ⦃g1 g2 g4 g5 g6 g7 g8 g9 g10 g11 g12 g13 g14 g15 g16 g17 g18 g19 : HV⦄, L0 k n y0 y3 S = some p → HRun Try.prog base W0 β0 19 none [.inLoop c15, .inBlock 0, .code c31] ⟨[(Sl.hv y0), g1, g2, (.int .i64 y3), g4, g5, g6, g7, g8, g9, g10, g11, g12, g13, g14, g15, g16, g17, g18, g19], []⟩ S (fun v S1 => v = (.bool p.1) ∧ S1 = p.2) := by
  intro n
  induction n with
  | zero => intro _ _ _ _ _ _ _ _ _ _ _ _ _ _ _ _ _ _ _ _ _ _ h; cases h
  | succ n ih =>
    intro y0 y3 S p g1 g2 g4 g5 g6 g7 g8 g9 g10 g11 g12 g13 g14 g15 g16 g17 g18 g19 h
    simp only [L0] at h
    refine hr_inLoop ?_
    refine q_seq e15 ?_
    refine q_seq e16 ?_
    refine q_region e17 rfl ?_
    refine q_op (dst := some 7) rfl (fun _ ho => ok_move ho (.tmp rfl)) ?_
    refine q_op (dst := some 8) rfl (fun _ ho => ok_move ho (.tmp rfl)) ?_
    refine q_op (dst := some 9) rfl (fun _ ho => ok_len_sl (q := Sl.a y0) (n := Sl.len y0) (z := Sl.cap y0) ho rfl tu42 (.tmp rfl)) ?_
    refine q_op (dst := some 10) rfl (fun _ ho => ok_ibin ho (.tmp rfl) (.tmp rfl) rfl) ?_
    refine hr_region_end ?_
    try dsimp only [HAct.put, List.set_cons_zero, List.set_cons_succ]
    rcases ifc h with ⟨hc2, h⟩ | ⟨hc2, h⟩
    · refine q_cond_t e18 (.tmp rfl) (decide_eq_true hc2) ?_
      refine q_skipc e19 ?_
      refine q_seq e21 ?_
      refine q_block e22 ?_
      refine q_seq e23 ?_
      refine q_region e24 rfl ?_
      refine q_op (dst := some 13) rfl (fun _ ho => ok_move ho (.tmp rfl)) ?_
      refine q_op (dst := some 14) rfl (fun _ ho => ok_move ho (.tmp rfl)) ?_
      obtain ⟨p3, hp3, h⟩ := bindo h
      refine q_op (dst := some 15) rfl (fun _ ho => ok_indexAddr (s := y0) ho tu42 sz52 (.tmp rfl) (.tmp rfl) hp3) ?_
      refine q_op (dst := some 16) rfl (fun _ ho => ok_fieldAddr_s ho fi52_1 (by decide) (.tmp rfl) rfl) ?_
      try dsimp only [HAct.put, List.set_cons_zero, List.set_cons_succ]
      obtain ⟨p4, hp4, h⟩ := bindo h
      refine q_op (dst := some 17) rfl (fun _ ho => ok_load_s ho sc9 (.tmp rfl) rfl (ldS_out hp4)) ?_
      refine q_op (dst := some 18) rfl (fun _ ho => ok_len_str ho rfl tu9 (.tmp rfl)) ?_
      refine q_op (dst := some 19) rfl (fun _ ho => ok_ibin ho (.tmp rfl) (.int _ _) rfl) ?_
      refine hr_region_end ?_
      try dsimp only [HAct.put, List.set_cons_zero, List.set_cons_succ]
      rcases ifc h with ⟨hc5, h⟩ | ⟨hc5, h⟩
      · refine q_cond_t e25 (.tmp rfl) (decide_eq_true hc5) ?_
        refine q_seq e26 ?_
        refine q_region e27 rfl ?_
        refine q_op (dst := some 2) rfl (fun _ ho => ok_assign ho (.bool _)) ?_
        refine hr_region_end ?_
        try dsimp only [HAct.put, List.set_cons_zero, List.set_cons_succ]
        cases h
        exact q_ret e28 at_.at_ rfl (res1 rfl rfl) ⟨rfl, rfl⟩
      · refine q_cond_f e25 (.tmp rfl) (decide_eq_false hc5) ?_
        refine q_skipc e29 ?_
        refine hr_inBlock ?_
        refine q_region e30 rfl ?_
        refine q_op (dst := some 11) rfl (fun _ ho => ok_move ho (.tmp rfl)) ?_
        refine q_op (dst := some 12) rfl (fun _ ho => ok_ibin ho (.tmp rfl) (.int _ _) rfl) ?_
        refine q_op (dst := some 3) rfl (fun _ ho => ok_assign ho (.tmp rfl)) ?_
        refine hr_region_end ?_
        try dsimp only [HAct.put, List.set_cons_zero, List.set_cons_succ]
        try dsimp only [HAct.put, List.set_cons_zero, List.set_cons_succ]
        exact ih h
    · refine q_cond_f e18 (.tmp rfl) (decide_eq_false hc2) ?_
      refine q_exit e20 rfl ?_
      refine q_seq e31 ?_
      refine q_region e32 rfl ?_
      refine q_op (dst := some 2) rfl (fun _ ho => ok_assign ho (.bool _)) ?_
      refine hr_region_end ?_
      try dsimp only [HAct.put, List.set_cons_zero, List.set_cons_succ]
      cases h
      exact q_ret e33 at_.at_ rfl (res1 rfl rfl) ⟨rfl, rfl⟩
def f (k : Nat) (x0 : Sl) (S : HS) : Option ((Bool) × HS) :=
  (if (Sl.len x0 : Int) > 40 then
  some (true, S) else
  L0 k k x0 0 S)
theorem snd {k : Nat} {x0 : Sl} {S : HS}  {p : (Bool) × HS} (h : f k x0 S = some p) : HCall Try.prog base W0 β0 19 [(Sl.hv x0)] S (fun v S1 => v = (.bool p.1) ∧ S1 = p.2) := by
  unfold f at h
  refine HCall.of_run at_.at_ body ?_
  show HRun Try.prog base W0 β0 19 none [.code c0] ⟨[(Sl.hv x0), .tup [], .tup [], .tup [], .tup [], .tup [], .tup [], .tup [], .tup [], .tup [], .tup [], .tup [], .tup [], .tup [], .tup [], .tup [], .tup [], .tup [], .tup [], .tup []], []⟩ S _
  refine q_seq e0 ?_
  refine q_region e1 rfl ?_
  refine q_op (dst := some 2) rfl (fun _ ho => ok_assign ho (.bool _)) ?_
  refine hr_region_end ?_
  try dsimp only [HAct.put, List.set_cons_zero, List.set_cons_succ]
  refine q_seq e2 ?_
  refine q_seq e3 ?_
  refine q_region e4 rfl ?_
  refine q_op (dst := some 4) rfl (fun _ ho => ok_move ho (.tmp rfl)) ?_
  refine q_op (dst := some 5) rfl (fun _ ho => ok_len_sl (q := Sl.a x0) (n := Sl.len x0) (z := Sl.cap x0) ho rfl tu42 (.tmp rfl)) ?_
  refine q_op (dst := some 6) rfl (fun _ ho => ok_ibin ho (.tmp rfl) (.int _ _) rfl) ?_
  refine hr_region_end ?_
  try dsimp only [HAct.put, List.set_cons_zero, List.set_cons_succ]
  rcases ifc h with ⟨hc1, h⟩ | ⟨hc1, h⟩
  · refine q_cond_t e5 (.tmp rfl) (decide_eq_true hc1) ?_
    refine q_seq e6 ?_
    refine q_region e7 rfl ?_
    refine q_op (dst := some 2) rfl (fun _ ho => ok_assign ho (.bool _)) ?_
    refine hr_region_end ?_
    try dsimp only [HAct.put, List.set_cons_zero, List.set_cons_succ]
    cases h
    exact q_ret e8 at_.at_ rfl (res1 rfl rfl) ⟨rfl, rfl⟩
  · refine q_cond_f e5 (.tmp rfl) (decide_eq_false hc1) ?_
    refine q_skipc e9 ?_
    refine q_seq e10 ?_
    refine q_seq e11 ?_
    refine q_region e12 rfl ?_
    refine q_op (dst := some 3) rfl (fun _ ho => ok_assign ho (.int _ _)) ?_
    refine hr_region_end ?_
    try dsimp only [HAct.put, List.set_cons_zero, List.set_cons_succ]
    refine q_block e13 ?_
    refine q_loop e14 ?_
    try dsimp only [HAct.put, List.set_cons_zero, List.set_cons_succ]
    exact L0_snd  h
end
end rollcalllaw02_great
namespace slices_Delete_book_entry_int_book_entry_int
abbrev id : Nat := 42
theorem at_ : FnAt Try.prog 42 Try.f42 := ⟨Try.func42, by kernel_rfl⟩
noncomputable def c0 : Code := (Try.f42.body).getD .skip
noncomputable def c1 : Code := match c0 with | .seq x _ => x | _ => .skip
noncomputable def c2 : Code := match c0 with | .seq _ x => x | _ => .skip
noncomputable def c3 : Code := match c2 with | .seq x _ => x | _ => .skip
noncomputable def c4 : Code := match c2 with | .seq _ x => x | _ => .skip
noncomputable def c5 : Code := match c4 with | .seq x _ => x | _ => .skip
noncomputable def c6 : Code := match c5 with | .seq x _ => x | _ => .skip
noncomputable def c7 : Code := match c5 with | .seq _ x => x | _ => .skip
noncomputable def c8 : Code := match c7 with | .cond _ x _ => x | _ => .skip
noncomputable def c9 : Code := match c8 with | .seq x _ => x | _ => .skip
noncomputable def c10 : Code := match c8 with | .seq _ x => x | _ => .skip
noncomputable def c11 : Code := match c7 with | .cond _ _ x => x | _ => .skip
noncomputable def c12 : Code := match c4 with | .seq _ x => x | _ => .skip
noncomputable def c13 : Code := match c12 with | .seq x _ => x | _ => .skip
noncomputable def c14 : Code := match c12 with | .seq _ x => x | _ => .skip
noncomputable def c15 : Code := match c14 with | .seq x _ => x | _ => .skip
noncomputable def c16 : Code := match c14 with | .seq _ x => x | _ => .skip
noncomputable def c17 : Code := match c16 with | .seq x _ => x | _ => .skip
noncomputable def c18 : Code := match c16 with | .seq _ x => x | _ => .skip
noncomputable def c19 : Code := match c18 with | .seq x _ => x | _ => .skip
noncomputable def c20 : Code := match c18 with | .seq _ x => x | _ => .skip
theorem e0 : c0 = .seq c1 c2 := by kernel_rfl
noncomputable def r1 : Array Oper := match c1 with | .region _ x _ => x | _ => #[]
theorem e1 : c1 = .region 0 r1 false := by kernel_rfl
theorem e2 : c2 = .seq c3 c4 := by kernel_rfl
noncomputable def r3 : Array Oper := match c3 with | .region _ x _ => x | _ => #[]
theorem e3 : c3 = .region 1 r3 false := by kernel_rfl
theorem e4 : c4 = .seq c5 c12 := by kernel_rfl
theorem e5 : c5 = .seq c6 c7 := by kernel_rfl
noncomputable def r6 : Array Oper := match c6 with | .region _ x _ => x | _ => #[]
theorem e6 : c6 = .region 2 r6 false := by kernel_rfl
theorem e7 : c7 = .cond (.tmp 16) c8 c11 := by kernel_rfl
theorem e8 : c8 = .seq c9 c10 := by kernel_rfl
noncomputable def r9 : Array Oper := match c9 with | .region _ x _ => x | _ => #[]
theorem e9 : c9 = .region 3 r9 false := by kernel_rfl
theorem e10 : c10 = .ret := by kernel_rfl
theorem e11 : c11 = .skip := by kernel_rfl
theorem e12 : c12 = .seq c13 c14 := by kernel_rfl
noncomputable def r13 : Array Oper := match c13 with | .region _ x _ => x | _ => #[]
theorem e13 : c13 = .region 4 r13 false := by kernel_rfl
theorem e14 : c14 = .seq c15 c16 := by kernel_rfl
noncomputable def r15 : Array Oper := match c15 with | .region _ x _ => x | _ => #[]
theorem e15 : c15 = .region 5 r15 true := by kernel_rfl
theorem e16 : c16 = .seq c17 c18 := by kernel_rfl
noncomputable def r17 : Array Oper := match c17 with | .region _ x _ => x | _ => #[]
theorem e17 : c17 = .region 6 r17 false := by kernel_rfl
theorem e18 : c18 = .seq c19 c20 := by kernel_rfl
noncomputable def r19 : Array Oper := match c19 with | .region _ x _ => x | _ => #[]
theorem e19 : c19 = .region 7 r19 false := by kernel_rfl
theorem e20 : c20 = .ret := by kernel_rfl
theorem body : Try.f42.body = some c0 := by kernel_rfl
section
variable {base : Nat} {W0 : World} {β0 : Bt}
def f (x0 : Sl) (x1 : Int) (x2 : Int) (S : HS) : Option ((Sl) × HS) :=
  (Option.bind (HS.cut3 S x0 x1 x2 (Sl.len x0 : Int) 2) fun p1 =>
  (if x1 = x2 then
  some (x0, S) else
  (Option.bind (HS.cut S x0 0 x1 2) fun p3 =>
  (Option.bind (HS.cut S x0 x2 (Sl.len x0 : Int) 2) fun p4 =>
  (Option.bind (HS.rows S p4 2) fun p5 =>
  (Option.bind (HS.app S p3 p5 2) fun p6 =>
  (Option.bind (HS.cut (p6.2) (p6.1) (Sl.len (p6.1) : Int) (Sl.len x0 : Int) 2) fun p7 =>
  (Option.bind (HS.over (p6.2) p7 (List.replicate (Sl.len p7) [(.str []), (.int .i64 0)]) 2) fun p8 =>
  some ((p6.1), p8)))))))))
theorem snd {x0 : Sl} {x1 : Int} {x2 : Int} {S : HS}  {p : (Sl) × HS} (h : f x0 x1 x2 S = some p) : HCall Try.prog base W0 β0 42 [(Sl.hv x0), (.int .i64 x1), (.int .i64 x2)] S (fun v S1 => v = (Sl.hv p.1) ∧ S1 = p.2) := by
  unfold f at h
  refine HCall.of_run at_.at_ body ?_
  show HRun Try.prog base W0 β0 42 none [.code c0] ⟨[(Sl.hv x0), (.int .i64 x1), (.int .i64 x2), .tup [], .tup [], .tup [], .tup [], .tup [], .tup [], .tup [], .tup [], .tup [], .tup [], .tup [], .tup [], .tup [], .tup [], .tup [], .tup [], .tup [], .tup [], .tup [], .tup [], .tup [], .tup [], .tup [], .tup [], .tup [], .tup [], .tup [], .tup [], .tup [], .tup []], []⟩ S _
  refine q_seq e0 ?_
  refine q_region e1 rfl ?_
  refine q_op (dst := some 6) rfl (fun _ ho => ok_assign ho (.const fun _ => .slNil none)) ?_
  refine hr_region_end ?_
  try dsimp only [HAct.put, List.set_cons_zero, List.set_cons_succ]
  refine q_seq e2 ?_
  refine q_region e3 rfl ?_
  refine q_op (dst := some 8) rfl (fun _ ho => ok_move ho (.tmp rfl)) ?_
  refine q_op (dst := some 9) rfl (fun _ ho => ok_move ho (.tmp rfl)) ?_
  refine q_op (dst := some 10) rfl (fun _ ho => ok_move ho (.tmp rfl)) ?_
  refine q_op (dst := some 11) rfl (fun _ ho => ok_move ho (.tmp rfl)) ?_
  try dsimp only [HAct.put, List.set_cons_zero, List.set_cons_succ]
  refine q_op (dst := some 12) rfl (fun _ ho => ok_len_sl (q := Sl.a x0) (n := Sl.len x0) (z := Sl.cap x0) ho rfl tu85 (.tmp rfl)) ?_
  obtain ⟨p1, hp1, h⟩ := bindo h
  refine q_op (dst := some 13) rfl (fun _ ho => ok_slice3 (kl := .i64) (kh := .i64) (s := x0) (l := x1) (h := x2) ho tu85 si90 (.tmp rfl) (.inr ⟨_, rfl, (.tmp rfl)⟩) (.inr ⟨_, rfl, (.tmp rfl)⟩) (.tmp rfl) hp1) ?_
  refine hr_region_end ?_
  try dsimp only [HAct.put, List.set_cons_zero, List.set_cons_succ]
  refine q_seq e4 ?_
  refine q_seq e5 ?_
  refine q_region e6 rfl ?_
  refine q_op (dst := some 14) rfl (fun _ ho => ok_move ho (.tmp rfl)) ?_
  refine q_op (dst := some 15) rfl (fun _ ho => ok_move ho (.tmp rfl)) ?_
  refine q_op (dst := some 16) rfl (fun _ ho => ok_ibin ho (.tmp rfl) (.tmp rfl) rfl) ?_
  refine hr_region_end ?_
  try dsimp only [HAct.put, List.set_cons_zero, List.set_cons_succ]
  rcases ifc h with ⟨hc2, h⟩ | ⟨hc2, h⟩
  · refine q_cond_t e7 (.tmp rfl) (decide_eq_true hc2) ?_
    refine q_seq e8 ?_
    refine q_region e9 rfl ?_
    refine q_op (dst := some 17) rfl (fun _ ho => ok_move ho (.tmp rfl)) ?_
    refine q_op (dst := some 6) rfl (fun _ ho => ok_assign ho (.tmp rfl)) ?_
    refine hr_region_end ?_
    try dsimp only [HAct.put, List.set_cons_zero, List.set_cons_succ]
    cases h
    exact q_ret e10 at_.at_ rfl (res1 rfl rfl) ⟨rfl, rfl⟩
  · refine q_cond_f e7 (.tmp rfl) (decide_eq_false hc2) ?_
    refine q_skipc e11 ?_
    refine q_seq e12 ?_
    refine q_region e13 rfl ?_
    refine q_op (dst := some 18) rfl (fun _ ho => ok_move ho (.tmp rfl)) ?_
    refine q_op (dst := some 19) rfl (fun _ ho => ok_len_sl (q := Sl.a x0) (n := Sl.len x0) (z := Sl.cap x0) ho rfl tu85 (.tmp rfl)) ?_
    refine q_op (dst := some 7) rfl (fun _ ho => ok_assign ho (.tmp rfl)) ?_
    refine hr_region_end ?_
    try dsimp only [HAct.put, List.set_cons_zero, List.set_cons_succ]
    refine q_seq e14 ?_
    refine x_start (cls := [0, 0, 1, 0, 0, 1, 2, 0]) (rk := [0, 1, 2, 3, 4, 5, 6, 7]) e15 (by kernel_rfl) ?_
    refine x_go (f_op (dst := some 20) (ts := [0]) rfl (by intro _ _ h; cases h) (by kernel_rfl) (fun _ _ ho => ok_move ho (.tmp rfl))) rfl ?_
    refine x_go (f_op (dst := some 21) (ts := [1]) rfl (by intro _ _ h; cases h) (by kernel_rfl) (fun _ _ ho => ok_move ho (.tmp rfl))) rfl ?_
    obtain ⟨p3, hp3, h⟩ := bindo h
    refine x_go (r_op (dst := some 22) (ts := [20, 21]) rfl (by intro _ _ h; cases h) (by kernel_rfl) (fun _ ho => ok_slice (kl := .i64) (kh := .i64) (s := x0) (l := 0) (h := x1) ho tu85 si90 (.tmp rfl) (.inl ⟨rfl, rfl⟩) (.inr ⟨_, rfl, (.tmp rfl)⟩) hp3)) rfl ?_
    refine x_go (f_op (dst := some 23) (ts := [0]) rfl (by intro _ _ h; cases h) (by kernel_rfl) (fun _ _ ho => ok_move ho (.tmp rfl))) rfl ?_
    try dsimp only [HAct.put, List.set_cons_zero, List.set_cons_succ]
    refine x_go (f_op (dst := some 24) (ts := [2]) rfl (by intro _ _ h; cases h) (by kernel_rfl) (fun _ _ ho => ok_move ho (.tmp rfl))) rfl ?_
    obtain ⟨p4, hp4, h⟩ := bindo h
    refine x_go (r_op (dst := some 25) (ts := [23, 24]) rfl (by intro _ _ h; cases h) (by kernel_rfl) (fun _ ho => ok_slice (kl := .i64) (kh := .i64) (s := x0) (l := x2) (h := (Sl.len x0 : Int)) ho tu85 si90 (.tmp rfl) (.inr ⟨_, rfl, (.tmp rfl)⟩) (.inl ⟨rfl, rfl⟩) hp4)) rfl ?_
    obtain ⟨p5, hp5, h⟩ := bindo h
    obtain ⟨p6, hp6, h⟩ := bindo h
    refine x_go (e_op (dst := some 26) (ts := [22, 25]) rfl (by intro _ _ h; cases h) (by kernel_rfl) (fun _ ho => ok_append (s := p3) (s1 := p4) el85 ho rfl rfl ⟨_, tu85⟩ (.tmp rfl) (.tmp rfl) hp5 hp6)) rfl ?_
    refine x_go (f_op (dst := some 0) (ts := [26]) rfl (by intro _ _ h; cases h) (by kernel_rfl) (fun _ _ ho => ok_assign ho (.tmp rfl))) rfl ?_
    refine x_rest rfl ?_
    refine hr_region_end ?_
    try dsimp only [HAct.put, List.set_cons_zero, List.set_cons_succ]
    refine q_seq e16 ?_
    refine q_region e17 rfl ?_
    refine q_op (dst := some 27) rfl (fun _ ho => ok_move ho (.tmp rfl)) ?_
    refine q_op (dst := some 28) rfl (fun _ ho => ok_move ho (.tmp rfl)) ?_
    refine q_op (dst := some 29) rfl (fun _ ho => ok_len_sl (q := Sl.a (p6.1)) (n := Sl.len (p6.1)) (z := Sl.cap (p6.1)) ho rfl tu85 (.tmp rfl)) ?_
    refine q_op (dst := some 30) rfl (fun _ ho => ok_move ho (.tmp rfl)) ?_
    try dsimp only [HAct.put, List.set_cons_zero, List.set_cons_succ]
    obtain ⟨p7, hp7, h⟩ := bindo h
    refine q_op (dst := some 31) rfl (fun _ ho => ok_slice (kl := .i64) (kh := .i64) (s := (p6.1)) (l := (Sl.len (p6.1) : Int)) (h := (Sl.len x0 : Int)) ho tu85 si90 (.tmp rfl) (.inr ⟨_, rfl, (.tmp rfl)⟩) (.inr ⟨_, rfl, (.tmp rfl)⟩) hp7) ?_
    obtain ⟨p8, hp8, h⟩ := bindo h
    refine q_op (dst := none) rfl (fun _ ho => ok_clear (s := p7) el85 ho rfl (.tmp rfl) hp8) ?_
    refine hr_region_end ?_
    try dsimp only [HAct.put, List.set_cons_zero, List.set_cons_succ]
    refine q_seq e18 ?_
    refine q_region e19 rfl ?_
    refine q_op (dst := some 32) rfl (fun _ ho => ok_move ho (.tmp rfl)) ?_
    refine q_op (dst := some 6) rfl (fun _ ho => ok_assign ho (.tmp rfl)) ?_
    refine hr_region_end ?_
    try dsimp only [HAct.put, List.set_cons_zero, List.set_cons_succ]
    cases h
    exact q_ret e20 at_.at_ rfl (res1 rfl rfl) ⟨rfl, rfl⟩
end
end slices_Delete_book_entry_int_book_entry_int
namespace slices_Delete_book_entry_int_book_entry_int_w
theorem at_ : FnAt Try.prog 42 Try.f42 := slices_Delete_book_entry_int_book_entry_int.at_
theorem body : Try.f42.body = some slices_Delete_book_entry_int_book_entry_int.c0 := slices_Delete_book_entry_int_book_entry_int.body
def f (x0 : Sl) (x1 : Int) (x2 : Int) (S : HS) : Option ((Sl) × HS) := HS.del S x0 x1 x2 2
theorem snd {base : Nat} {W0 : World} {β0 : Bt} {x0 : Sl} {x1 x2 : Int} {S : HS} {p : (Sl) × HS} (h : f x0 x1 x2 S = some p) : HCall Try.prog base W0 β0 42 [(Sl.hv x0), (.int .i64 x1), (.int .i64 x2)] S (fun v S1 => v = (Sl.hv p.1) ∧ S1 = p.2) :=
  del_snd (zr := [(.str []), (.int .i64 0)]) (fun _ _ _ h => slices_Delete_book_entry_int_book_entry_int.snd h) h
end slices_Delete_book_entry_int_book_entry_int_w
end Go.Proofs.Ytlfdaflngmkldaa.X
