/- Functions of the program, each as a Lean function over the layer HL: a call answers what the Lean function answers, where it answers. -/
import Derived.Test.YtlmpmnbljpigiaaProg
import Derived.Test.YtlmpmnbljpigiaaHLu
namespace Go.Proofs.Ytlmpmnbljpigiaa.X
open Go.Proofs.Ytlmpmnbljpigiaa.HL
set_option linter.unusedVariables false
set_option linter.unusedSimpArgs false
set_option maxRecDepth 20000
theorem st42 : StructAt Try.prog 42 [(0, 1), (1, 1), (2, 1)] [(.int .i64 0), (Sl.hv Sl.nil), (.int .i64 0)] := structAt_mk (zv := (.agg #[(.int .i64 0), (.slice none 0 0), (.int .i64 0)])) (by kernel_rfl) (by kernel_rfl) (fun β => VRels.cons (.int _ _) (VRels.cons (.slNil none) (VRels.cons (.int _ _) (VRels.nil β))))
theorem tu24 : Try.prog.underlying 24 = some (.pointer 42) := by kernel_rfl
theorem fi42_1 : fieldInfo Try.prog 42 1 = some (1, 40, 1) := by kernel_rfl
theorem sc40 : Scalar Try.prog 40 := ⟨(.slice 44), by kernel_rfl, trivial⟩
theorem tu40 : Try.prog.underlying 40 = some (.slice 44) := by kernel_rfl
theorem fi42_0 : fieldInfo Try.prog 42 0 = some (0, 3, 1) := by kernel_rfl
theorem sc3 : Scalar Try.prog 3 := ⟨(.int .i64), by kernel_rfl, trivial⟩
theorem st44 : StructAt Try.prog 44 [(0, 1), (1, 1)] [(.str []), (.int .i64 0)] := structAt_mk (zv := (.agg #[(.string ⟨#[]⟩), (.int .i64 0)])) (by kernel_rfl) (by kernel_rfl) (fun β => VRels.cons (.str []) (VRels.cons (.int _ _) (VRels.nil β)))
theorem el40 : ElemAt Try.prog 40 44 2 [(.str []), (.int .i64 0)] := elemAt_mk (zv := (.agg #[(.string ⟨#[]⟩), (.int .i64 0)])) (by_ := 24) (by kernel_rfl) (by kernel_rfl) (by decide) (fun β => VRels.cons (.str []) (VRels.cons (.int _ _) (VRels.nil β))) rfl (by decide) rfl
theorem sz40 : ∃ q, Try.prog.info? 40 = some q ∧ q.size = 1 := size_mk' (by kernel_rfl)
theorem fi42_2 : fieldInfo Try.prog 42 2 = some (2, 3, 1) := by kernel_rfl
theorem sz3 : ∃ q, Try.prog.info? 3 = some q ∧ q.size = 1 := size_mk' (by kernel_rfl)
theorem sz44 : ∃ q, Try.prog.info? 44 = some q ∧ q.size = 2 := size_mk' (by kernel_rfl)
theorem ia44 : IsAgg Try.prog 44 2 := isAgg_mk2 (by kernel_rfl) (by kernel_rfl)
theorem zi44 : (Try.prog.info? 44).map (·.zero) = some (some (.agg #[(.string ⟨#[]⟩), (.int .i64 0)])) := by kernel_rfl
theorem zr44 : ∀ β, VRels β [(.str []), (.int .i64 0)] (Value.cells (.agg #[(.string ⟨#[]⟩), (.int .i64 0)])) := fun β => VRels.cons (.str []) (VRels.cons (.int _ _) (VRels.nil β))
theorem fi44_0 : fieldInfo Try.prog 44 0 = some (0, 9, 1) := by kernel_rfl
theorem sc9 : Scalar Try.prog 9 := ⟨.string, by kernel_rfl, trivial⟩
theorem fi44_1 : fieldInfo Try.prog 44 1 = some (1, 3, 1) := by kernel_rfl
theorem zi40 : (Try.prog.info? 40).map (·.zero) = some (some (.slice none 0 0)) := by kernel_rfl
theorem zr40 : ∀ β, VRels β [(Sl.hv Sl.nil)] (Value.cells (.slice none 0 0)) := fun β => VRels.cons (.slNil none) (VRels.nil β)
theorem tu9 : Try.prog.underlying 9 = some .string := by kernel_rfl
theorem sc37 : Scalar Try.prog 37 := ⟨(.func #[48] #[] false), by kernel_rfl, trivial⟩
theorem sc48 : Scalar Try.prog 48 := ⟨(.func #[9, 3] #[4] false), by kernel_rfl, trivial⟩
theorem zi37 : (Try.prog.info? 37).map (·.zero) = some (some .nilFunc) := by kernel_rfl
theorem zr37 : ∀ β, VRels β [.nilFn] (Value.cells .nilFunc) := fun β => VRels.cons (.nilFn) (VRels.nil β)
theorem sz37 : ∃ q, Try.prog.info? 37 = some q ∧ q.size = 1 := size_mk' (by kernel_rfl)
theorem zi4 : (Try.prog.info? 4).map (·.zero) = some (some (.bool false)) := by kernel_rfl
theorem zr4 : ∀ β, VRels β [(.bool false)] (Value.cells (.bool false)) := fun β => VRels.cons (.bool _) (VRels.nil β)
theorem tu37 : Try.prog.underlying 37 = some (.func #[48] #[] false) := by kernel_rfl
theorem sz4 : ∃ q, Try.prog.info? 4 = some q ∧ q.size = 1 := size_mk' (by kernel_rfl)
theorem sc4 : Scalar Try.prog 4 := ⟨.bool, by kernel_rfl, trivial⟩
theorem zi3 : (Try.prog.info? 3).map (·.zero) = some (some (.int .i64 0)) := by kernel_rfl
theorem zr3 : ∀ β, VRels β [(.int .i64 0)] (Value.cells (.int .i64 0)) := fun β => VRels.cons (.int _ _) (VRels.nil β)
theorem sc22 : Scalar Try.prog 22 := ⟨(.slice 29), by kernel_rfl, trivial⟩
theorem tu22 : Try.prog.underlying 22 = some (.slice 29) := by kernel_rfl
theorem sz29 : ∃ q, Try.prog.info? 29 = some q ∧ q.size = 2 := size_mk' (by kernel_rfl)
theorem fi29_0 : fieldInfo Try.prog 29 0 = some (0, 9, 1) := by kernel_rfl
theorem fi29_1 : fieldInfo Try.prog 29 1 = some (1, 3, 1) := by kernel_rfl
theorem st29 : StructAt Try.prog 29 [(0, 1), (1, 1)] [(.str []), (.int .i64 0)] := structAt_mk (zv := (.agg #[(.string ⟨#[]⟩), (.int .i64 0)])) (by kernel_rfl) (by kernel_rfl) (fun β => VRels.cons (.str []) (VRels.cons (.int _ _) (VRels.nil β)))
theorem el22 : ElemAt Try.prog 22 29 2 [(.str []), (.int .i64 0)] := elemAt_mk (zv := (.agg #[(.string ⟨#[]⟩), (.int .i64 0)])) (by_ := 24) (by kernel_rfl) (by kernel_rfl) (by decide) (fun β => VRels.cons (.str []) (VRels.cons (.int _ _) (VRels.nil β))) rfl (by decide) rfl
theorem el52 : ElemAt Try.prog 52 5 1 [(.int .u8 0)] := elemAt_mk (zv := (.int .u8 0)) (by_ := 1) (by kernel_rfl) (by kernel_rfl) (by decide) (fun β => VRels.cons (.int _ _) (VRels.nil β)) rfl (by decide) rfl
theorem tu52 : Try.prog.underlying 52 = some (.slice 5) := by kernel_rfl
theorem tu5 : Try.prog.underlying 5 = some (.int .u8) := by kernel_rfl
theorem ia29 : IsAgg Try.prog 29 2 := isAgg_mk2 (by kernel_rfl) (by kernel_rfl)
theorem si29 : SizeIs Try.prog 29 2 24 := sizeIs_mk (by kernel_rfl)
theorem tu3 : Try.prog.underlying 3 = some (.int .i64) := by kernel_rfl
theorem zi24 : (Try.prog.info? 24).map (·.zero) = some (some (.pointer none)) := by kernel_rfl
theorem zr24 : ∀ β, VRels β [(.ptr none)] (Value.cells (.pointer none)) := fun β => VRels.cons (.ptrNil) (VRels.nil β)
theorem sz24 : ∃ q, Try.prog.info? 24 = some q ∧ q.size = 1 := size_mk' (by kernel_rfl)
theorem sc35 : Scalar Try.prog 35 := ⟨(.slice 3), by kernel_rfl, trivial⟩
theorem tu35 : Try.prog.underlying 35 = some (.slice 3) := by kernel_rfl
theorem sc24 : Scalar Try.prog 24 := ⟨(.pointer 42), by kernel_rfl, trivial⟩
namespace was_New_int
abbrev id : Nat := 6
theorem at_ : FnAt Try.prog 6 Try.f6 := ⟨Try.func6, by kernel_rfl⟩
noncomputable def c0 : Code := (Try.f6.body).getD .skip
noncomputable def c1 : Code := match c0 with | .seq x _ => x | _ => .skip
noncomputable def c2 : Code := match c0 with | .seq _ x => x | _ => .skip
noncomputable def c3 : Code := match c2 with | .seq x _ => x | _ => .skip
noncomputable def c4 : Code := match c3 with | .seq x _ => x | _ => .skip
noncomputable def c5 : Code := match c3 with | .seq _ x => x | _ => .skip
noncomputable def c6 : Code := match c5 with | .cond _ x _ => x | _ => .skip
noncomputable def c7 : Code := match c6 with | .seq x _ => x | _ => .skip
noncomputable def c8 : Code := match c6 with | .seq _ x => x | _ => .skip
noncomputable def c9 : Code := match c5 with | .cond _ _ x => x | _ => .skip
noncomputable def c10 : Code := match c2 with | .seq _ x => x | _ => .skip
noncomputable def c11 : Code := match c10 with | .seq x _ => x | _ => .skip
noncomputable def c12 : Code := match c10 with | .seq _ x => x | _ => .skip
theorem e0 : c0 = .seq c1 c2 := by kernel_rfl
noncomputable def r1 : Array Oper := match c1 with | .region _ x _ => x | _ => #[]
theorem e1 : c1 = .region 0 r1 false := by kernel_rfl
theorem e2 : c2 = .seq c3 c10 := by kernel_rfl
theorem e3 : c3 = .seq c4 c5 := by kernel_rfl
noncomputable def r4 : Array Oper := match c4 with | .region _ x _ => x | _ => #[]
theorem e4 : c4 = .region 1 r4 false := by kernel_rfl
theorem e5 : c5 = .cond (.tmp 9) c6 c9 := by kernel_rfl
theorem e6 : c6 = .seq c7 c8 := by kernel_rfl
noncomputable def r7 : Array Oper := match c7 with | .region _ x _ => x | _ => #[]
theorem e7 : c7 = .region 2 r7 false := by kernel_rfl
theorem e8 : c8 = .ret := by kernel_rfl
theorem e9 : c9 = .skip := by kernel_rfl
theorem e10 : c10 = .seq c11 c12 := by kernel_rfl
noncomputable def r11 : Array Oper := match c11 with | .region _ x _ => x | _ => #[]
theorem e11 : c11 = .region 3 r11 false := by kernel_rfl
theorem e12 : c12 = .ret := by kernel_rfl
theorem body : Try.f6.body = some c0 := by kernel_rfl
section
variable {base : Nat} {W0 : World} {β0 : Bt}
def J0  (y0 : Int) (y9 : Bool) (S : HS) : Option (((Option HA) × Int) × HS) :=
  (if y9 = true then
  some ((none, 2), S) else
  (letv (HS.new S (.cells 3 [[(.int .i64 y0), (Sl.hv Sl.nil), (.int .i64 0)]] true)) fun p3 =>
  some (((some (HA.cell0 S.next)), 0), p3)))
theorem J0_snd   {y0 : Int} {y9 : Bool} {S : HS} {p : ((Option HA) × Int) × HS} {g1 g2 g3 g4 g5 g6 g7 g8 g10 g11 g12 : HV} (h : J0  y0 y9 S = some p) : HRun Try.prog base W0 β0 6 none [.code c5, .code c10] ⟨[(.int .i64 y0), g1, g2, g3, g4, g5, g6, g7, g8, (.bool y9), g10, g11, g12], []⟩ S (fun v S1 => v = (.tup [(.ptr p.1.1), (.int .i64 p.1.2)]) ∧ S1 = p.2) := by
  unfold J0 at h
  rcases ifc h with ⟨hc2, h⟩ | ⟨hc2, h⟩
  · refine q_cond_t e5 (.tmp rfl) hc2 ?_
    refine q_seq e6 ?_
    refine q_region e7 rfl ?_
    refine q_op (dst := some 2) rfl (fun _ ho => ok_assign ho (.const fun _ => .ptrNil)) ?_
    refine q_op (dst := some 3) rfl (fun _ ho => ok_assign ho (.int _ _)) ?_
    refine hr_region_end ?_
    try dsimp only [HAct.put, List.set_cons_zero, List.set_cons_succ]
    cases h
    exact q_ret e8 at_.at_ rfl (res2 rfl rfl rfl) ⟨rfl, rfl⟩
  · refine q_cond_f e5 (.tmp rfl) (bfalse hc2) ?_
    refine q_skipc e9 ?_
    refine q_seq e10 ?_
    refine q_region e11 rfl ?_
    refine q_op (dst := some 10) rfl (fun _ ho => ok_move ho (.tmp rfl)) ?_
    refine q_op (dst := some 11) rfl (fun _ ho => ok_build (is := [0]) (xs := [(.tmp 10)]) (r := [(.int .i64 y0), (Sl.hv Sl.nil), (.int .i64 0)]) st42 ho rfl rfl (.cons (.tmp rfl) Evs.nil) rfl) ?_
    obtain ⟨p3, hp3, h⟩ := leto h
    refine q_op (dst := some 12) rfl (fun _ ho => ok_box_e ho (.tmp rfl) (Nat.zero_lt_succ _) rfl hp3) ?_
    refine q_op (dst := some 2) rfl (fun _ ho => ok_assign ho (.tmp rfl)) ?_
    try dsimp only [HAct.put, List.set_cons_zero, List.set_cons_succ]
    refine q_op (dst := some 3) rfl (fun _ ho => ok_assign ho (.int _ _)) ?_
    refine hr_region_end ?_
    try dsimp only [HAct.put, List.set_cons_zero, List.set_cons_succ]
    cases h
    exact q_ret e12 at_.at_ rfl (res2 rfl rfl rfl) ⟨rfl, rfl⟩
def f (x0 : Int) (S : HS) : Option (((Option HA) × Int) × HS) :=
  (if x0 < 0 then
  J0 x0 true S else
  J0 x0 (decide (x0 > 100000)) S)
theorem snd {x0 : Int} {S : HS}  {p : ((Option HA) × Int) × HS} (h : f x0 S = some p) : HCall Try.prog base W0 β0 6 [(.int .i64 x0)] S (fun v S1 => v = (.tup [(.ptr p.1.1), (.int .i64 p.1.2)]) ∧ S1 = p.2) := by
  unfold f at h
  refine HCall.of_run at_.at_ body ?_
  show HRun Try.prog base W0 β0 6 none [.code c0] ⟨[(.int .i64 x0), .tup [], .tup [], .tup [], .tup [], .tup [], .tup [], .tup [], .tup [], .tup [], .tup [], .tup [], .tup []], []⟩ S _
  refine q_seq e0 ?_
  refine q_region e1 rfl ?_
  refine q_op (dst := some 2) rfl (fun _ ho => ok_assign ho (.const fun _ => .ptrNil)) ?_
  refine q_op (dst := some 3) rfl (fun _ ho => ok_assign ho (.int _ _)) ?_
  refine hr_region_end ?_
  try dsimp only [HAct.put, List.set_cons_zero, List.set_cons_succ]
  refine q_seq e2 ?_
  refine q_seq e3 ?_
  refine q_region e4 rfl ?_
  refine q_op (dst := some 4) rfl (fun _ ho => ok_move ho (.tmp rfl)) ?_
  refine q_op (dst := some 5) rfl (fun _ ho => ok_ibin ho (.tmp rfl) (.int _ _) rfl) ?_
  refine q_op (dst := some 6) rfl (fun _ ho => ok_move ho (.tmp rfl)) ?_
  rcases ifc h with ⟨hc1, h⟩ | ⟨hc1, h⟩
  · refine q_skip (dst := some 7) (t := 6) rfl rfl rfl (decide_eq_true hc1) ?_
    try dsimp only [HAct.put, List.set_cons_zero, List.set_cons_succ]
    refine q_skip (dst := some 8) (t := 6) rfl rfl rfl (decide_eq_true hc1) ?_
    refine q_op (dst := some 9) rfl (fun _ ho => ok_pick_tt ho (.tmp rfl) (decide_eq_true hc1) (.bool _)) ?_
    refine hr_region_end ?_
    try dsimp only [HAct.put, List.set_cons_zero, List.set_cons_succ]
    try dsimp only [HAct.put, List.set_cons_zero, List.set_cons_succ]
    exact J0_snd  h
  · refine q_op_g (t := 6) (dst := some 7) rfl rfl rfl (decide_eq_false hc1) (fun _ ho => ok_move ho (.tmp rfl)) ?_
    try dsimp only [HAct.put, List.set_cons_zero, List.set_cons_succ]
    refine q_op_g (t := 6) (dst := some 8) rfl rfl rfl (decide_eq_false hc1) (fun _ ho => ok_ibin ho (.tmp rfl) (.int _ _) rfl) ?_
    refine q_op (dst := some 9) rfl (fun _ ho => ok_pick_ff ho (.tmp rfl) (decide_eq_false hc1) (.tmp rfl)) ?_
    refine hr_region_end ?_
    try dsimp only [HAct.put, List.set_cons_zero, List.set_cons_succ]
    try dsimp only [HAct.put, List.set_cons_zero, List.set_cons_succ]
    exact J0_snd  h
end
end was_New_int
namespace was_Past_int_Put
abbrev id : Nat := 7
theorem at_ : FnAt Try.prog 7 Try.f7 := ⟨Try.func7, by kernel_rfl⟩
noncomputable def c0 : Code := (Try.f7.body).getD .skip
noncomputable def c1 : Code := match c0 with | .seq x _ => x | _ => .skip
noncomputable def c2 : Code := match c1 with | .block _ x => x | _ => .skip
noncomputable def c3 : Code := match c2 with | .seq x _ => x | _ => .skip
noncomputable def c4 : Code := match c2 with | .seq _ x => x | _ => .skip
noncomputable def c5 : Code := match c4 with | .cond _ x _ => x | _ => .skip
noncomputable def c6 : Code := match c4 with | .cond _ _ x => x | _ => .skip
noncomputable def c7 : Code := match c6 with | .seq x _ => x | _ => .skip
noncomputable def c8 : Code := match c6 with | .seq _ x => x | _ => .skip
noncomputable def c9 : Code := match c8 with | .cond _ x _ => x | _ => .skip
noncomputable def c10 : Code := match c8 with | .cond _ _ x => x | _ => .skip
noncomputable def c11 : Code := match c0 with | .seq _ x => x | _ => .skip
theorem e0 : c0 = .seq c1 c11 := by kernel_rfl
theorem e1 : c1 = .block 0 c2 := by kernel_rfl
theorem e2 : c2 = .seq c3 c4 := by kernel_rfl
noncomputable def r3 : Array Oper := match c3 with | .region _ x _ => x | _ => #[]
theorem e3 : c3 = .region 1 r3 false := by kernel_rfl
theorem e4 : c4 = .cond (.tmp 18) c5 c6 := by kernel_rfl
theorem e5 : c5 = .ret := by kernel_rfl
theorem e6 : c6 = .seq c7 c8 := by kernel_rfl
noncomputable def r7 : Array Oper := match c7 with | .region _ x _ => x | _ => #[]
theorem e7 : c7 = .region 2 r7 true := by kernel_rfl
theorem e8 : c8 = .cond (.tmp 28) c9 c10 := by kernel_rfl
noncomputable def r9 : Array Oper := match c9 with | .region _ x _ => x | _ => #[]
theorem e9 : c9 = .region 3 r9 false := by kernel_rfl
noncomputable def r10 : Array Oper := match c10 with | .region _ x _ => x | _ => #[]
theorem e10 : c10 = .region 0 r10 true := by kernel_rfl
noncomputable def r11 : Array Oper := match c11 with | .region _ x _ => x | _ => #[]
theorem e11 : c11 = .region 4 r11 true := by kernel_rfl
theorem body : Try.f7.body = some c0 := by kernel_rfl
section
variable {base : Nat} {W0 : World} {β0 : Bt}
def J1  (y0 : (Option HA)) (S : HS) : Option ((Unit) × HS) :=
  (Option.bind (y0) fun p15 =>
  (Option.bind (HS.ldI S .i64 (HA.fld p15 2)) fun p16 =>
  (Option.bind (y0) fun p17 =>
  (Option.bind (HS.ldI S .i64 (HA.fld p17 0)) fun p18 =>
  (if p18 ≠ 0 then
  (Option.bind (y0) fun p20 =>
  (Option.bind (HS.sets S (HA.fld p20 2) [(.int .i64 (Int.tmod (w64 (p16 + 1)) p18))]) fun p21 =>
  some ((), p21))) else none)))))
theorem J1_snd   {y0 : (Option HA)} {S : HS} {p : (Unit) × HS} {g1 g2 g3 g4 g5 g6 g7 g8 g9 g10 g11 g12 g13 g14 g15 g16 g17 g18 g19 g20 g21 g22 g23 g24 g25 g26 g27 g28 g29 g30 g31 g32 g33 g34 g35 g36 g37 g38 g39 g40 g41 g42 g43 g44 g45 g46 g47 g48 g49 g50 g51 g52 g53 g54 g55 g56 g57 g58 g59 g60 g61 g62 g63 : HV} (h : J1  y0 S = some p) : HRun Try.prog base W0 β0 7 none [.code c11] ⟨[(.ptr y0), g1, g2, g3, g4, g5, g6, g7, g8, g9, g10, g11, g12, g13, g14, g15, g16, g17, g18, g19, g20, g21, g22, g23, g24, g25, g26, g27, g28, g29, g30, g31, g32, g33, g34, g35, g36, g37, g38, g39, g40, g41, g42, g43, g44, g45, g46, g47, g48, g49, g50, g51, g52, g53, g54, g55, g56, g57, g58, g59, g60, g61, g62, g63], []⟩ S (fun v S1 => v = (.tup []) ∧ S1 = p.2) := by
  unfold J1 at h
  refine x_start (cls := [0, 0, 0, 0, 1, 0, 0, 0, 0, 1, 0, 0, 0, 2]) (rk := [0, 1, 2, 3, 4, 5, 6, 7, 8, 9, 10, 11, 12, 13]) e11 (by kernel_rfl) ?_
  refine x_go (f_op (dst := some 51) (ts := [0]) rfl (by intro _ _ h; cases h) (by kernel_rfl) (fun _ _ ho => ok_move ho (.tmp rfl))) rfl ?_
  refine x_go (f_op (dst := some 52) (ts := [0]) rfl (by intro _ _ h; cases h) (by kernel_rfl) (fun _ _ ho => ok_move ho (.tmp rfl))) rfl ?_
  obtain ⟨p15, hp15, h⟩ := bindo h
  refine x_go (f_op (dst := some 53) (ts := [52]) rfl (by intro _ _ h; cases h) (by kernel_rfl) (fun _ _ ho => ok_nilCheck_p ho (.tmp rfl) hp15)) rfl ?_
  refine x_go (f_op (dst := some 54) (ts := [53]) rfl (by intro _ _ h; cases h) (by kernel_rfl) (fun _ _ ho => ok_fieldAddr_s ho fi42_2 (by decide) (.tmp rfl) rfl)) rfl ?_
  try dsimp only [HAct.put, List.set_cons_zero, List.set_cons_succ]
  obtain ⟨p16, hp16, h⟩ := bindo h
  refine x_go (r_op (dst := some 55) (ts := [54]) rfl (by intro _ _ h; cases h) (by kernel_rfl) (fun _ ho => ok_load_s ho sc3 (.tmp rfl) rfl (ldI_out hp16))) rfl ?_
  refine x_go (f_op (dst := some 56) (ts := [55]) rfl (by intro _ _ h; cases h) (by kernel_rfl) (fun _ _ ho => ok_ibin ho (.tmp rfl) (.int _ _) rfl)) rfl ?_
  refine x_go (f_op (dst := some 57) (ts := [0]) rfl (by intro _ _ h; cases h) (by kernel_rfl) (fun _ _ ho => ok_move ho (.tmp rfl))) rfl ?_
  obtain ⟨p17, hp17, h⟩ := bindo h
  refine x_go (f_op (dst := some 58) (ts := [57]) rfl (by intro _ _ h; cases h) (by kernel_rfl) (fun _ _ ho => ok_nilCheck_p ho (.tmp rfl) hp17)) rfl ?_
  try dsimp only [HAct.put, List.set_cons_zero, List.set_cons_succ]
  refine x_go (f_op (dst := some 59) (ts := [58]) rfl (by intro _ _ h; cases h) (by kernel_rfl) (fun _ _ ho => ok_fieldAddr_s ho fi42_0 (by decide) (.tmp rfl) rfl)) rfl ?_
  obtain ⟨p18, hp18, h⟩ := bindo h
  refine x_go (r_op (dst := some 60) (ts := [59]) rfl (by intro _ _ h; cases h) (by kernel_rfl) (fun _ ho => ok_load_s ho sc3 (.tmp rfl) rfl (ldI_out hp18))) rfl ?_
  obtain ⟨hg19, h⟩ := gd h
  refine x_go (f_op (dst := some 61) (ts := [56, 60]) rfl (by intro _ _ h; cases h) (by kernel_rfl) (fun _ _ ho => ok_rem ho (.tmp rfl) (.tmp rfl) hg19)) rfl ?_
  obtain ⟨p20, hp20, h⟩ := bindo h
  refine x_go (f_op (dst := some 62) (ts := [51]) rfl (by intro _ _ h; cases h) (by kernel_rfl) (fun _ _ ho => ok_nilCheck_p ho (.tmp rfl) hp20)) rfl ?_
  try dsimp only [HAct.put, List.set_cons_zero, List.set_cons_succ]
  refine x_go (f_op (dst := some 63) (ts := [62]) rfl (by intro _ _ h; cases h) (by kernel_rfl) (fun _ _ ho => ok_fieldAddr_s ho fi42_2 (by decide) (.tmp rfl) rfl)) rfl ?_
  obtain ⟨p21, hp21, h⟩ := bindo h
  refine x_go (e_op (dst := none) (ts := [63, 61]) rfl (by intro _ _ h; cases h) (by kernel_rfl) (fun _ ho => ok_store_s (v := (.int .i64 (Int.tmod (w64 (p16 + 1)) p18))) ho sz3 (.tmp rfl) rfl (.tmp rfl) rfl hp21)) rfl ?_
  refine x_rest rfl ?_
  refine hr_region_end ?_
  try dsimp only [HAct.put, List.set_cons_zero, List.set_cons_succ]
  cases h
  exact q_end at_.at_ rfl (res0 rfl) ⟨rfl, rfl⟩
def J0  (y0 : (Option HA)) (y1 : (List UInt8)) (y2 : Int) (y27 : Bool) (S : HS) : Option ((Unit) × HS) :=
  (if y27 = true then
  some ((), S) else
  (Option.bind (y0) fun p3 =>
  (Option.bind (HS.ldSl S (HA.fld p3 1)) fun p4 =>
  (Option.bind (y0) fun p5 =>
  (Option.bind (HS.ldI S .i64 (HA.fld p5 0)) fun p6 =>
  (if (Sl.len p4 : Int) < p6 then
  (Option.bind (y0) fun p8 =>
  (Option.bind (HS.ldSl S (HA.fld p8 1)) fun p9 =>
  (letv (HS.lit S [[(.str y1), (.int .i64 y2)]] 2) fun p10 =>
  (Option.bind (HS.rows (p10.2) (p10.1) 2) fun p11 =>
  (Option.bind (HS.app (p10.2) p9 p11 2) fun p12 =>
  (Option.bind (y0) fun p13 =>
  (Option.bind (HS.sets (p12.2) (HA.fld p13 1) [(Sl.hv (p12.1))]) fun p14 =>
  J1 y0 p14))))))) else
  (Option.bind (y0) fun p22 =>
  (Option.bind (HS.ldSl S (HA.fld p22 1)) fun p23 =>
  (Option.bind (y0) fun p24 =>
  (Option.bind (HS.ldI S .i64 (HA.fld p24 2)) fun p25 =>
  (Option.bind (HS.idx S p23 p25 2) fun p26 =>
  (Option.bind (HS.sets S p26 [(.str y1), (.int .i64 y2)]) fun p27 =>
  J1 y0 p27))))))))))))
theorem J0_snd   {y0 : (Option HA)} {y1 : (List UInt8)} {y2 : Int} {y27 : Bool} {S : HS} {p : (Unit) × HS} {g3 g4 g5 g6 g7 g8 g9 g10 g11 g12 g13 g14 g15 g16 g17 g18 g19 g20 g21 g22 g23 g24 g25 g26 g28 g29 g30 g31 g32 g33 g34 g35 g36 g37 g38 g39 g40 g41 g42 g43 g44 g45 g46 g47 g48 g49 g50 g51 g52 g53 g54 g55 g56 g57 g58 g59 g60 g61 g62 g63 : HV} (h : J0  y0 y1 y2 y27 S = some p) : HRun Try.prog base W0 β0 7 none [.inRegion r3 [9], .code c4, .inBlock 0, .code c11] ⟨[(.ptr y0), (.str y1), (.int .i64 y2), g3, g4, g5, g6, g7, g8, g9, g10, g11, g12, g13, g14, g15, g16, g17, g18, g19, g20, g21, g22, g23, g24, g25, g26, (.bool y27), g28, g29, g30, g31, g32, g33, g34, g35, g36, g37, g38, g39, g40, g41, g42, g43, g44, g45, g46, g47, g48, g49, g50, g51, g52, g53, g54, g55, g56, g57, g58, g59, g60, g61, g62, g63], []⟩ S (fun v S1 => v = (.tup []) ∧ S1 = p.2) := by
  unfold J0 at h
  refine q_op (dst := some 18) rfl (fun _ ho => ok_assign ho (.tmp rfl)) ?_
  refine hr_region_end ?_
  try dsimp only [HAct.put, List.set_cons_zero, List.set_cons_succ]
  rcases ifc h with ⟨hc2, h⟩ | ⟨hc2, h⟩
  · refine q_cond_t e4 (.tmp rfl) hc2 ?_
    cases h
    exact q_ret e5 at_.at_ rfl (res0 rfl) ⟨rfl, rfl⟩
  · refine q_cond_f e4 (.tmp rfl) (bfalse hc2) ?_
    refine q_seq e6 ?_
    refine x_start (cls := [0, 0, 0, 1, 0, 0, 0, 0, 1, 0, 0]) (rk := [0, 1, 2, 3, 4, 5, 6, 7, 8, 9, 10]) e7 (by kernel_rfl) ?_
    refine x_go (f_op (dst := some 29) (ts := [0]) rfl (by intro _ _ h; cases h) (by kernel_rfl) (fun _ _ ho => ok_move ho (.tmp rfl))) rfl ?_
    obtain ⟨p3, hp3, h⟩ := bindo h
    refine x_go (f_op (dst := some 30) (ts := [29]) rfl (by intro _ _ h; cases h) (by kernel_rfl) (fun _ _ ho => ok_nilCheck_p ho (.tmp rfl) hp3)) rfl ?_
    refine x_go (f_op (dst := some 31) (ts := [30]) rfl (by intro _ _ h; cases h) (by kernel_rfl) (fun _ _ ho => ok_fieldAddr_s ho fi42_1 (by decide) (.tmp rfl) rfl)) rfl ?_
    obtain ⟨p4, hp4, h⟩ := bindo h
    refine x_go (r_op (dst := some 32) (ts := [31]) rfl (by intro _ _ h; cases h) (by kernel_rfl) (fun _ ho => ok_load_s ho sc40 (.tmp rfl) rfl (ldSl_out hp4))) rfl ?_
    try dsimp only [HAct.put, List.set_cons_zero, List.set_cons_succ]
    refine x_go (f_op (dst := some 33) (ts := [32]) rfl (by intro _ _ h; cases h) (by kernel_rfl) (fun _ _ ho => ok_len_sl (q := Sl.a p4) (n := Sl.len p4) (z := Sl.cap p4) ho rfl tu40 (.tmp rfl))) rfl ?_
    refine x_go (f_op (dst := some 34) (ts := [0]) rfl (by intro _ _ h; cases h) (by kernel_rfl) (fun _ _ ho => ok_move ho (.tmp rfl))) rfl ?_
    obtain ⟨p5, hp5, h⟩ := bindo h
    refine x_go (f_op (dst := some 35) (ts := [34]) rfl (by intro _ _ h; cases h) (by kernel_rfl) (fun _ _ ho => ok_nilCheck_p ho (.tmp rfl) hp5)) rfl ?_
    refine x_go (f_op (dst := some 36) (ts := [35]) rfl (by intro _ _ h; cases h) (by kernel_rfl) (fun _ _ ho => ok_fieldAddr_s ho fi42_0 (by decide) (.tmp rfl) rfl)) rfl ?_
    try dsimp only [HAct.put, List.set_cons_zero, List.set_cons_succ]
    obtain ⟨p6, hp6, h⟩ := bindo h
    refine x_go (r_op (dst := some 37) (ts := [36]) rfl (by intro _ _ h; cases h) (by kernel_rfl) (fun _ ho => ok_load_s ho sc3 (.tmp rfl) rfl (ldI_out hp6))) rfl ?_
    refine x_go (f_op (dst := some 38) (ts := [33, 37]) rfl (by intro _ _ h; cases h) (by kernel_rfl) (fun _ _ ho => ok_ibin ho (.tmp rfl) (.tmp rfl) rfl)) rfl ?_
    refine x_go (f_op (dst := some 28) (ts := [38]) rfl (by intro _ _ h; cases h) (by kernel_rfl) (fun _ _ ho => ok_assign ho (.tmp rfl))) rfl ?_
    refine x_rest rfl ?_
    refine hr_region_end ?_
    try dsimp only [HAct.put, List.set_cons_zero, List.set_cons_succ]
    rcases ifc h with ⟨hc7, h⟩ | ⟨hc7, h⟩
    · refine q_cond_t e8 (.tmp rfl) (decide_eq_true hc7) ?_
      refine q_region e9 rfl ?_
      refine q_op (dst := some 39) rfl (fun _ ho => ok_move ho (.tmp rfl)) ?_
      refine q_op (dst := some 40) rfl (fun _ ho => ok_move ho (.tmp rfl)) ?_
      obtain ⟨p8, hp8, h⟩ := bindo h
      refine q_op (dst := some 41) rfl (fun _ ho => ok_nilCheck_p ho (.tmp rfl) hp8) ?_
      refine q_op (dst := some 42) rfl (fun _ ho => ok_fieldAddr_s ho fi42_1 (by decide) (.tmp rfl) rfl) ?_
      try dsimp only [HAct.put, List.set_cons_zero, List.set_cons_succ]
      obtain ⟨p9, hp9, h⟩ := bindo h
      refine q_op (dst := some 43) rfl (fun _ ho => ok_load_s ho sc40 (.tmp rfl) rfl (ldSl_out hp9)) ?_
      refine q_op (dst := some 44) rfl (fun _ ho => ok_move ho (.tmp rfl)) ?_
      refine q_op (dst := some 45) rfl (fun _ ho => ok_move ho (.tmp rfl)) ?_
      refine q_op (dst := some 46) rfl (fun _ ho => ok_build (is := [0, 1]) (xs := [(.tmp 44), (.tmp 45)]) (r := [(.str y1), (.int .i64 y2)]) st44 ho rfl rfl (.cons (.tmp rfl) (.cons (.tmp rfl) Evs.nil)) rfl) ?_
      try dsimp only [HAct.put, List.set_cons_zero, List.set_cons_succ]
      obtain ⟨p10, hp10, h⟩ := leto h
      refine q_op (dst := some 47) rfl (fun _ ho => ok_buildSlice_s (xs := [(.tmp 46)]) el40 ho rfl rfl (by decide) (.cons (.tmp rfl) Evs.nil) rfl rfl hp10) ?_
      obtain ⟨p11, hp11, h⟩ := bindo h
      obtain ⟨p12, hp12, h⟩ := bindo h
      refine q_op (dst := some 48) rfl (fun _ ho => ok_append (s := p9) (s1 := (p10.1)) el40 ho rfl rfl ⟨_, tu40⟩ (.tmp rfl) (.tmp rfl) hp11 hp12) ?_
      obtain ⟨p13, hp13, h⟩ := bindo h
      refine q_op (dst := some 49) rfl (fun _ ho => ok_nilCheck_p ho (.tmp rfl) hp13) ?_
      refine q_op (dst := some 50) rfl (fun _ ho => ok_fieldAddr_s ho fi42_1 (by decide) (.tmp rfl) rfl) ?_
      try dsimp only [HAct.put, List.set_cons_zero, List.set_cons_succ]
      obtain ⟨p14, hp14, h⟩ := bindo h
      refine q_op (dst := none) rfl (fun _ ho => ok_store_s (v := (Sl.hv (p12.1))) ho sz40 (.tmp rfl) rfl (.tmp rfl) rfl hp14) ?_
      refine hr_region_end ?_
      try dsimp only [HAct.put, List.set_cons_zero, List.set_cons_succ]
      refine hr_inBlock ?_
      try dsimp only [HAct.put, List.set_cons_zero, List.set_cons_succ]
      exact J1_snd  h
    · refine q_cond_f e8 (.tmp rfl) (decide_eq_false hc7) ?_
      refine x_start (cls := [0, 0, 0, 1, 0, 0, 0, 1, 0, 0, 0, 1, 2]) (rk := [0, 1, 2, 3, 4, 5, 6, 7, 8, 9, 10, 11, 12]) e10 (by kernel_rfl) ?_
      refine x_go (f_op (dst := some 6) (ts := [0]) rfl (by intro _ _ h; cases h) (by kernel_rfl) (fun _ _ ho => ok_move ho (.tmp rfl))) rfl ?_
      obtain ⟨p22, hp22, h⟩ := bindo h
      refine x_go (f_op (dst := some 7) (ts := [6]) rfl (by intro _ _ h; cases h) (by kernel_rfl) (fun _ _ ho => ok_nilCheck_p ho (.tmp rfl) hp22)) rfl ?_
      refine x_go (f_op (dst := some 8) (ts := [7]) rfl (by intro _ _ h; cases h) (by kernel_rfl) (fun _ _ ho => ok_fieldAddr_s ho fi42_1 (by decide) (.tmp rfl) rfl)) rfl ?_
      obtain ⟨p23, hp23, h⟩ := bindo h
      refine x_go (r_op (dst := some 9) (ts := [8]) rfl (by intro _ _ h; cases h) (by kernel_rfl) (fun _ ho => ok_load_s ho sc40 (.tmp rfl) rfl (ldSl_out hp23))) rfl ?_
      try dsimp only [HAct.put, List.set_cons_zero, List.set_cons_succ]
      refine x_go (f_op (dst := some 10) (ts := [0]) rfl (by intro _ _ h; cases h) (by kernel_rfl) (fun _ _ ho => ok_move ho (.tmp rfl))) rfl ?_
      obtain ⟨p24, hp24, h⟩ := bindo h
      refine x_go (f_op (dst := some 11) (ts := [10]) rfl (by intro _ _ h; cases h) (by kernel_rfl) (fun _ _ ho => ok_nilCheck_p ho (.tmp rfl) hp24)) rfl ?_
      refine x_go (f_op (dst := some 12) (ts := [11]) rfl (by intro _ _ h; cases h) (by kernel_rfl) (fun _ _ ho => ok_fieldAddr_s ho fi42_2 (by decide) (.tmp rfl) rfl)) rfl ?_
      obtain ⟨p25, hp25, h⟩ := bindo h
      refine x_go (r_op (dst := some 13) (ts := [12]) rfl (by intro _ _ h; cases h) (by kernel_rfl) (fun _ ho => ok_load_s ho sc3 (.tmp rfl) rfl (ldI_out hp25))) rfl ?_
      try dsimp only [HAct.put, List.set_cons_zero, List.set_cons_succ]
      refine x_go (f_op (dst := some 14) (ts := [1]) rfl (by intro _ _ h; cases h) (by kernel_rfl) (fun _ _ ho => ok_move ho (.tmp rfl))) rfl ?_
      refine x_go (f_op (dst := some 15) (ts := [2]) rfl (by intro _ _ h; cases h) (by kernel_rfl) (fun _ _ ho => ok_move ho (.tmp rfl))) rfl ?_
      refine x_go (f_op (dst := some 16) (ts := [14, 15]) rfl (by intro _ _ h; cases h) (by kernel_rfl) (fun _ _ ho => ok_build (is := [0, 1]) (xs := [(.tmp 14), (.tmp 15)]) (r := [(.str y1), (.int .i64 y2)]) st44 ho rfl rfl (.cons (.tmp rfl) (.cons (.tmp rfl) Evs.nil)) rfl)) rfl ?_
      obtain ⟨p26, hp26, h⟩ := bindo h
      refine x_go (r_op (dst := some 17) (ts := [9, 13]) rfl (by intro _ _ h; cases h) (by kernel_rfl) (fun _ ho => ok_indexAddr (s := p23) ho tu40 sz44 (.tmp rfl) (.tmp rfl) hp26)) rfl ?_
      try dsimp only [HAct.put, List.set_cons_zero, List.set_cons_succ]
      obtain ⟨p27, hp27, h⟩ := bindo h
      refine x_go (e_op (dst := none) (ts := [17, 16]) rfl (by intro _ _ h; cases h) (by kernel_rfl) (fun _ ho => ok_store_s (v := (.agg [(.str y1), (.int .i64 y2)])) ho sz44 (.tmp rfl) rfl (.tmp rfl) rfl hp27)) rfl ?_
      refine x_rest rfl ?_
      refine hr_region_end ?_
      try dsimp only [HAct.put, List.set_cons_zero, List.set_cons_succ]
      refine hr_inBlock ?_
      try dsimp only [HAct.put, List.set_cons_zero, List.set_cons_succ]
      exact J1_snd  h
def f (x0 : (Option HA)) (x1 : (List UInt8)) (x2 : Int) (S : HS) : Option ((Unit) × HS) :=
  (if (Option.isNone x0) = true then
  J0 x0 x1 x2 true S else
  (Option.bind (x0) fun p28 =>
  (Option.bind (HS.ldI S .i64 (HA.fld p28 0)) fun p29 =>
  J0 x0 x1 x2 (decide (p29 = 0)) S)))
theorem snd {x0 : (Option HA)} {x1 : (List UInt8)} {x2 : Int} {S : HS}  {p : (Unit) × HS} (h : f x0 x1 x2 S = some p) : HCall Try.prog base W0 β0 7 [(.ptr x0), (.str x1), (.int .i64 x2)] S (fun v S1 => v = (.tup []) ∧ S1 = p.2) := by
  unfold f at h
  refine HCall.of_run at_.at_ body ?_
  show HRun Try.prog base W0 β0 7 none [.code c0] ⟨[(.ptr x0), (.str x1), (.int .i64 x2), .tup [], .tup [], .tup [], .tup [], .tup [], .tup [], .tup [], .tup [], .tup [], .tup [], .tup [], .tup [], .tup [], .tup [], .tup [], .tup [], .tup [], .tup [], .tup [], .tup [], .tup [], .tup [], .tup [], .tup [], .tup [], .tup [], .tup [], .tup [], .tup [], .tup [], .tup [], .tup [], .tup [], .tup [], .tup [], .tup [], .tup [], .tup [], .tup [], .tup [], .tup [], .tup [], .tup [], .tup [], .tup [], .tup [], .tup [], .tup [], .tup [], .tup [], .tup [], .tup [], .tup [], .tup [], .tup [], .tup [], .tup [], .tup [], .tup [], .tup [], .tup []], []⟩ S _
  refine q_seq e0 ?_
  refine q_block e1 ?_
  refine q_seq e2 ?_
  refine q_region e3 rfl ?_
  refine q_op (dst := some 19) rfl (fun _ ho => ok_move ho (.tmp rfl)) ?_
  refine q_op (dst := some 20) rfl (fun _ ho => ok_nil_ptr ho tu24 (.tmp rfl) (.inl ⟨rfl, rfl⟩)) ?_
  refine q_op (dst := some 21) rfl (fun _ ho => ok_move ho (.tmp rfl)) ?_
  rcases ifc h with ⟨hc1, h⟩ | ⟨hc1, h⟩
  · refine q_skip (dst := some 22) (t := 21) rfl rfl rfl hc1 ?_
    try dsimp only [HAct.put, List.set_cons_zero, List.set_cons_succ]
    refine q_skip (dst := some 23) (t := 21) rfl rfl rfl hc1 ?_
    refine q_skip (dst := some 24) (t := 21) rfl rfl rfl hc1 ?_
    refine q_skip (dst := some 25) (t := 21) rfl rfl rfl hc1 ?_
    refine q_skip (dst := some 26) (t := 21) rfl rfl rfl hc1 ?_
    try dsimp only [HAct.put, List.set_cons_zero, List.set_cons_succ]
    refine q_op (dst := some 27) rfl (fun _ ho => ok_pick_tt ho (.tmp rfl) hc1 (.bool _)) ?_
    try dsimp only [HAct.put, List.set_cons_zero, List.set_cons_succ]
    exact J0_snd  h
  · refine q_op_g (t := 21) (dst := some 22) rfl rfl rfl (bfalse hc1) (fun _ ho => ok_move ho (.tmp rfl)) ?_
    try dsimp only [HAct.put, List.set_cons_zero, List.set_cons_succ]
    obtain ⟨p28, hp28, h⟩ := bindo h
    refine q_op_g (t := 21) (dst := some 23) rfl rfl rfl (bfalse hc1) (fun _ ho => ok_nilCheck_p ho (.tmp rfl) hp28) ?_
    refine q_op_g (t := 21) (dst := some 24) rfl rfl rfl (bfalse hc1) (fun _ ho => ok_fieldAddr_s ho fi42_0 (by decide) (.tmp rfl) rfl) ?_
    obtain ⟨p29, hp29, h⟩ := bindo h
    refine q_op_g (t := 21) (dst := some 25) rfl rfl rfl (bfalse hc1) (fun _ ho => ok_load_s ho sc3 (.tmp rfl) rfl (ldI_out hp29)) ?_
    refine q_op_g (t := 21) (dst := some 26) rfl rfl rfl (bfalse hc1) (fun _ ho => ok_ibin ho (.tmp rfl) (.int _ _) rfl) ?_
    try dsimp only [HAct.put, List.set_cons_zero, List.set_cons_succ]
    refine q_op (dst := some 27) rfl (fun _ ho => ok_pick_ff ho (.tmp rfl) (bfalse hc1) (.tmp rfl)) ?_
    try dsimp only [HAct.put, List.set_cons_zero, List.set_cons_succ]
    exact J0_snd  h
end
end was_Past_int_Put
namespace was_Past_int_Len
abbrev id : Nat := 8
theorem at_ : FnAt Try.prog 8 Try.f8 := ⟨Try.func8, by kernel_rfl⟩
noncomputable def c0 : Code := (Try.f8.body).getD .skip
noncomputable def c1 : Code := match c0 with | .seq x _ => x | _ => .skip
noncomputable def c2 : Code := match c0 with | .seq _ x => x | _ => .skip
noncomputable def c3 : Code := match c2 with | .seq x _ => x | _ => .skip
noncomputable def c4 : Code := match c3 with | .seq x _ => x | _ => .skip
noncomputable def c5 : Code := match c3 with | .seq _ x => x | _ => .skip
noncomputable def c6 : Code := match c5 with | .cond _ x _ => x | _ => .skip
noncomputable def c7 : Code := match c6 with | .seq x _ => x | _ => .skip
noncomputable def c8 : Code := match c6 with | .seq _ x => x | _ => .skip
noncomputable def c9 : Code := match c5 with | .cond _ _ x => x | _ => .skip
noncomputable def c10 : Code := match c2 with | .seq _ x => x | _ => .skip
noncomputable def c11 : Code := match c10 with | .seq x _ => x | _ => .skip
noncomputable def c12 : Code := match c10 with | .seq _ x => x | _ => .skip
theorem e0 : c0 = .seq c1 c2 := by kernel_rfl
noncomputable def r1 : Array Oper := match c1 with | .region _ x _ => x | _ => #[]
theorem e1 : c1 = .region 0 r1 false := by kernel_rfl
theorem e2 : c2 = .seq c3 c10 := by kernel_rfl
theorem e3 : c3 = .seq c4 c5 := by kernel_rfl
noncomputable def r4 : Array Oper := match c4 with | .region _ x _ => x | _ => #[]
theorem e4 : c4 = .region 1 r4 false := by kernel_rfl
theorem e5 : c5 = .cond (.tmp 4) c6 c9 := by kernel_rfl
theorem e6 : c6 = .seq c7 c8 := by kernel_rfl
noncomputable def r7 : Array Oper := match c7 with | .region _ x _ => x | _ => #[]
theorem e7 : c7 = .region 2 r7 false := by kernel_rfl
theorem e8 : c8 = .ret := by kernel_rfl
theorem e9 : c9 = .skip := by kernel_rfl
theorem e10 : c10 = .seq c11 c12 := by kernel_rfl
noncomputable def r11 : Array Oper := match c11 with | .region _ x _ => x | _ => #[]
theorem e11 : c11 = .region 3 r11 false := by kernel_rfl
theorem e12 : c12 = .ret := by kernel_rfl
theorem body : Try.f8.body = some c0 := by kernel_rfl
section
variable {base : Nat} {W0 : World} {β0 : Bt}
def f (x0 : (Option HA)) (S : HS) : Option ((Int) × HS) :=
  (if (Option.isNone x0) = true then
  some (0, S) else
  (Option.bind (x0) fun p2 =>
  (Option.bind (HS.ldSl S (HA.fld p2 1)) fun p3 =>
  some ((Sl.len p3 : Int), S))))
theorem snd {x0 : (Option HA)} {S : HS}  {p : (Int) × HS} (h : f x0 S = some p) : HCall Try.prog base W0 β0 8 [(.ptr x0)] S (fun v S1 => v = (.int .i64 p.1) ∧ S1 = p.2) := by
  unfold f at h
  refine HCall.of_run at_.at_ body ?_
  show HRun Try.prog base W0 β0 8 none [.code c0] ⟨[(.ptr x0), .tup [], .tup [], .tup [], .tup [], .tup [], .tup [], .tup [], .tup [], .tup []], []⟩ S _
  refine q_seq e0 ?_
  refine q_region e1 rfl ?_
  refine q_op (dst := some 2) rfl (fun _ ho => ok_assign ho (.int _ _)) ?_
  refine hr_region_end ?_
  try dsimp only [HAct.put, List.set_cons_zero, List.set_cons_succ]
  refine q_seq e2 ?_
  refine q_seq e3 ?_
  refine q_region e4 rfl ?_
  refine q_op (dst := some 3) rfl (fun _ ho => ok_move ho (.tmp rfl)) ?_
  refine q_op (dst := some 4) rfl (fun _ ho => ok_nil_ptr ho tu24 (.tmp rfl) (.inl ⟨rfl, rfl⟩)) ?_
  refine hr_region_end ?_
  try dsimp only [HAct.put, List.set_cons_zero, List.set_cons_succ]
  rcases ifc h with ⟨hc1, h⟩ | ⟨hc1, h⟩
  · refine q_cond_t e5 (.tmp rfl) hc1 ?_
    refine q_seq e6 ?_
    refine q_region e7 rfl ?_
    refine q_op (dst := some 2) rfl (fun _ ho => ok_assign ho (.int _ _)) ?_
    refine hr_region_end ?_
    try dsimp only [HAct.put, List.set_cons_zero, List.set_cons_succ]
    cases h
    exact q_ret e8 at_.at_ rfl (res1 rfl rfl) ⟨rfl, rfl⟩
  · refine q_cond_f e5 (.tmp rfl) (bfalse hc1) ?_
    refine q_skipc e9 ?_
    refine q_seq e10 ?_
    refine q_region e11 rfl ?_
    refine q_op (dst := some 5) rfl (fun _ ho => ok_move ho (.tmp rfl)) ?_
    obtain ⟨p2, hp2, h⟩ := bindo h
    refine q_op (dst := some 6) rfl (fun _ ho => ok_nilCheck_p ho (.tmp rfl) hp2) ?_
    refine q_op (dst := some 7) rfl (fun _ ho => ok_fieldAddr_s ho fi42_1 (by decide) (.tmp rfl) rfl) ?_
    obtain ⟨p3, hp3, h⟩ := bindo h
    refine q_op (dst := some 8) rfl (fun _ ho => ok_load_s ho sc40 (.tmp rfl) rfl (ldSl_out hp3)) ?_
    try dsimp only [HAct.put, List.set_cons_zero, List.set_cons_succ]
    refine q_op (dst := some 9) rfl (fun _ ho => ok_len_sl (q := Sl.a p3) (n := Sl.len p3) (z := Sl.cap p3) ho rfl tu40 (.tmp rfl)) ?_
    refine q_op (dst := some 2) rfl (fun _ ho => ok_assign ho (.tmp rfl)) ?_
    refine hr_region_end ?_
    try dsimp only [HAct.put, List.set_cons_zero, List.set_cons_succ]
    cases h
    exact q_ret e12 at_.at_ rfl (res1 rfl rfl) ⟨rfl, rfl⟩
end
end was_Past_int_Len
namespace was_Past_int_rows
abbrev id : Nat := 14
theorem at_ : FnAt Try.prog 14 Try.f14 := ⟨Try.func14, by kernel_rfl⟩
noncomputable def c0 : Code := (Try.f14.body).getD .skip
noncomputable def c1 : Code := match c0 with | .seq x _ => x | _ => .skip
noncomputable def c2 : Code := match c0 with | .seq _ x => x | _ => .skip
noncomputable def c3 : Code := match c2 with | .seq x _ => x | _ => .skip
noncomputable def c4 : Code := match c2 with | .seq _ x => x | _ => .skip
noncomputable def c5 : Code := match c4 with | .seq x _ => x | _ => .skip
noncomputable def c6 : Code := match c5 with | .seq x _ => x | _ => .skip
noncomputable def c7 : Code := match c5 with | .seq _ x => x | _ => .skip
noncomputable def c8 : Code := match c7 with | .block _ x => x | _ => .skip
noncomputable def c9 : Code := match c8 with | .loop x => x | _ => .skip
noncomputable def c10 : Code := match c9 with | .seq x _ => x | _ => .skip
noncomputable def c11 : Code := match c9 with | .seq _ x => x | _ => .skip
noncomputable def c12 : Code := match c11 with | .seq x _ => x | _ => .skip
noncomputable def c13 : Code := match c12 with | .cond _ x _ => x | _ => .skip
noncomputable def c14 : Code := match c12 with | .cond _ _ x => x | _ => .skip
noncomputable def c15 : Code := match c11 with | .seq _ x => x | _ => .skip
noncomputable def c16 : Code := match c15 with | .seq x _ => x | _ => .skip
noncomputable def c17 : Code := match c16 with | .block _ x => x | _ => .skip
noncomputable def c18 : Code := match c17 with | .seq x _ => x | _ => .skip
noncomputable def c19 : Code := match c17 with | .seq _ x => x | _ => .skip
noncomputable def c20 : Code := match c19 with | .seq x _ => x | _ => .skip
noncomputable def c21 : Code := match c19 with | .seq _ x => x | _ => .skip
noncomputable def c22 : Code := match c15 with | .seq _ x => x | _ => .skip
noncomputable def c23 : Code := match c4 with | .seq _ x => x | _ => .skip
noncomputable def c24 : Code := match c23 with | .seq x _ => x | _ => .skip
noncomputable def c25 : Code := match c23 with | .seq _ x => x | _ => .skip
theorem e0 : c0 = .seq c1 c2 := by kernel_rfl
noncomputable def r1 : Array Oper := match c1 with | .region _ x _ => x | _ => #[]
theorem e1 : c1 = .region 0 r1 false := by kernel_rfl
theorem e2 : c2 = .seq c3 c4 := by kernel_rfl
noncomputable def r3 : Array Oper := match c3 with | .region _ x _ => x | _ => #[]
theorem e3 : c3 = .region 1 r3 false := by kernel_rfl
theorem e4 : c4 = .seq c5 c23 := by kernel_rfl
theorem e5 : c5 = .seq c6 c7 := by kernel_rfl
noncomputable def r6 : Array Oper := match c6 with | .region _ x _ => x | _ => #[]
theorem e6 : c6 = .region 2 r6 false := by kernel_rfl
theorem e7 : c7 = .block 0 c8 := by kernel_rfl
theorem e8 : c8 = .loop c9 := by kernel_rfl
theorem e9 : c9 = .seq c10 c11 := by kernel_rfl
noncomputable def r10 : Array Oper := match c10 with | .region _ x _ => x | _ => #[]
theorem e10 : c10 = .region 3 r10 false := by kernel_rfl
theorem e11 : c11 = .seq c12 c15 := by kernel_rfl
theorem e12 : c12 = .cond (.tmp 9) c13 c14 := by kernel_rfl
theorem e13 : c13 = .skip := by kernel_rfl
theorem e14 : c14 = .exit 0 := by kernel_rfl
theorem e15 : c15 = .seq c16 c22 := by kernel_rfl
theorem e16 : c16 = .block 1 c17 := by kernel_rfl
theorem e17 : c17 = .seq c18 c19 := by kernel_rfl
noncomputable def r18 : Array Oper := match c18 with | .region _ x _ => x | _ => #[]
theorem e18 : c18 = .region 4 r18 false := by kernel_rfl
theorem e19 : c19 = .seq c20 c21 := by kernel_rfl
noncomputable def r20 : Array Oper := match c20 with | .region _ x _ => x | _ => #[]
theorem e20 : c20 = .region 5 r20 false := by kernel_rfl
noncomputable def r21 : Array Oper := match c21 with | .region _ x _ => x | _ => #[]
theorem e21 : c21 = .region 6 r21 true := by kernel_rfl
noncomputable def r22 : Array Oper := match c22 with | .region _ x _ => x | _ => #[]
theorem e22 : c22 = .region 7 r22 false := by kernel_rfl
theorem e23 : c23 = .seq c24 c25 := by kernel_rfl
noncomputable def r24 : Array Oper := match c24 with | .region _ x _ => x | _ => #[]
theorem e24 : c24 = .region 8 r24 false := by kernel_rfl
theorem e25 : c25 = .ret := by kernel_rfl
theorem body : Try.f14.body = some c0 := by kernel_rfl
section
variable {base : Nat} {W0 : World} {β0 : Bt}
def L0 (k : Nat) : Nat → (Option HA) → Sl → Int → Int → HS → Option ((Sl) × HS)
  | 0, _, _, _, _, _ => none
  | n + 1, y0, y3, y7, y8, S =>
    (if y8 < y7 then
    (Option.bind (y0) fun p3 =>
    (Option.bind (HS.ldSl S (HA.fld p3 1)) fun p4 =>
    (Option.bind (y0) fun p5 =>
    (Option.bind (HS.ldSl S (HA.fld p5 1)) fun p6 =>
    (Option.bind (y0) fun p7 =>
    (Option.bind (HS.ldI S .i64 (HA.fld p7 2)) fun p8 =>
    (if (Sl.len p4 : Int) ≠ 0 then
    (if (Sl.len p4 : Int) ≠ 0 then
    (Option.bind (HS.idx S p6 (Int.tmod (w64 ((Int.tmod (w64 ((w64 (p8 - 1)) - y8)) (Sl.len p4 : Int)) + (Sl.len p4 : Int))) (Sl.len p4 : Int)) 2) fun p11 =>
    (Option.bind (HS.ldS S (HA.fld p11 0)) fun p12 =>
    (Option.bind (HS.ldI S .i64 (HA.fld p11 1)) fun p13 =>
    (letv (HS.lit S [[(.str p12), (.int .i64 p13)]] 2) fun p14 =>
    (Option.bind (HS.rows (p14.2) (p14.1) 2) fun p15 =>
    (Option.bind (HS.app (p14.2) y3 p15 2) fun p16 =>
    (L0 k n) y0 (p16.1) y7 (w64 (y8 + 1)) (p16.2))))))) else none) else none))))))) else
    some (y3, S))
theorem L0_snd {k : Nat}  : ∀ {n : Nat} ⦃y0 : (Option HA)⦄ ⦃y3 : Sl⦄ ⦃y7 : Int⦄ ⦃y8 : Int⦄ ⦃S : HS⦄ ⦃p : (Sl) × HS⦄ ⦃g1 g2 g4 g5 g6 g9 g10 g11 g12 g13 g14 g15 g16 g17 g18 g19 g20 g21 g22 g23 g24 g25 g26 g27 g28 g29 g30 g31 g32 g33 g34 g35 g36 g37 g38 g39 : HV⦄, L0 k n y0 y3 y7 y8 S = some p → HRun Try.prog base W0 β0 14 none [.inLoop c9, .inBlock 0, .code c23] ⟨[(.ptr y0), g1, g2, (Sl.hv y3), g4, g5, g6, (.int .i64 y7), (.int .i64 y8), g9, g10, g11, g12, g13, g14, g15, g16, g17, g18, g19, g20, g21, g22, g23, g24, g25, g26, g27, g28, g29, g30, g31, g32, g33, g34, g35, g36, g37, g38, g39], []⟩ S (fun v S1 => v = (Sl.hv p.1) ∧ S1 = p.2) := by
  intro n
  induction n with
  | zero => intro _ _ _ _ _ _ _ _ _ _ _ _ _ _ _ _ _ _ _ _ _ _ _ _ _ _ _ _ _ _ _ _ _ _ _ _ _ _ _ _ _ _ h; cases h
  | succ n ih =>
    intro y0 y3 y7 y8 S p g1 g2 g4 g5 g6 g9 g10 g11 g12 g13 g14 g15 g16 g17 g18 g19 g20 g21 g22 g23 g24 g25 g26 g27 g28 g29 g30 g31 g32 g33 g34 g35 g36 g37 g38 g39 h
    simp only [L0] at h
    refine hr_inLoop ?_
    refine q_seq e9 ?_
    refine q_region e10 rfl ?_
    refine q_op (dst := some 9) rfl (fun _ ho => ok_ibin ho (.tmp rfl) (.tmp rfl) rfl) ?_
    refine hr_region_end ?_
    try dsimp only [HAct.put, List.set_cons_zero, List.set_cons_succ]
    refine q_seq e11 ?_
    rcases ifc h with ⟨hc2, h⟩ | ⟨hc2, h⟩
    · refine q_cond_t e12 (.tmp rfl) (decide_eq_true hc2) ?_
      refine q_skipc e13 ?_
      refine q_seq e15 ?_
      refine q_block e16 ?_
      refine q_seq e17 ?_
      refine q_region e18 rfl ?_
      refine q_op (dst := some 10) rfl (fun _ ho => ok_move ho (.tmp rfl)) ?_
      refine q_op (dst := some 4) rfl (fun _ ho => ok_assign ho (.tmp rfl)) ?_
      refine hr_region_end ?_
      try dsimp only [HAct.put, List.set_cons_zero, List.set_cons_succ]
      refine q_seq e19 ?_
      refine q_region e20 rfl ?_
      refine q_op (dst := some 11) rfl (fun _ ho => ok_move ho (.tmp rfl)) ?_
      obtain ⟨p3, hp3, h⟩ := bindo h
      refine q_op (dst := some 12) rfl (fun _ ho => ok_nilCheck_p ho (.tmp rfl) hp3) ?_
      refine q_op (dst := some 13) rfl (fun _ ho => ok_fieldAddr_s ho fi42_1 (by decide) (.tmp rfl) rfl) ?_
      obtain ⟨p4, hp4, h⟩ := bindo h
      refine q_op (dst := some 14) rfl (fun _ ho => ok_load_s ho sc40 (.tmp rfl) rfl (ldSl_out hp4)) ?_
      try dsimp only [HAct.put, List.set_cons_zero, List.set_cons_succ]
      refine q_op (dst := some 15) rfl (fun _ ho => ok_len_sl (q := Sl.a p4) (n := Sl.len p4) (z := Sl.cap p4) ho rfl tu40 (.tmp rfl)) ?_
      refine q_op (dst := some 5) rfl (fun _ ho => ok_assign ho (.tmp rfl)) ?_
      refine hr_region_end ?_
      try dsimp only [HAct.put, List.set_cons_zero, List.set_cons_succ]
      refine x_start (cls := [0, 0, 0, 0, 1, 0, 0, 0, 1, 0, 0, 0, 0, 0, 0, 0, 0, 0, 1, 1, 2, 2, 0]) (rk := [0, 1, 2, 3, 4, 5, 6, 7, 8, 9, 10, 11, 12, 13, 14, 15, 16, 17, 18, 19, 20, 21, 22]) e21 (by kernel_rfl) ?_
      refine x_go (f_op (dst := some 16) (ts := [3]) rfl (by intro _ _ h; cases h) (by kernel_rfl) (fun _ _ ho => ok_move ho (.tmp rfl))) rfl ?_
      refine x_go (f_op (dst := some 17) (ts := [0]) rfl (by intro _ _ h; cases h) (by kernel_rfl) (fun _ _ ho => ok_move ho (.tmp rfl))) rfl ?_
      obtain ⟨p5, hp5, h⟩ := bindo h
      refine x_go (f_op (dst := some 18) (ts := [17]) rfl (by intro _ _ h; cases h) (by kernel_rfl) (fun _ _ ho => ok_nilCheck_p ho (.tmp rfl) hp5)) rfl ?_
      refine x_go (f_op (dst := some 19) (ts := [18]) rfl (by intro _ _ h; cases h) (by kernel_rfl) (fun _ _ ho => ok_fieldAddr_s ho fi42_1 (by decide) (.tmp rfl) rfl)) rfl ?_
      try dsimp only [HAct.put, List.set_cons_zero, List.set_cons_succ]
      obtain ⟨p6, hp6, h⟩ := bindo h
      refine x_go (r_op (dst := some 20) (ts := [19]) rfl (by intro _ _ h; cases h) (by kernel_rfl) (fun _ ho => ok_load_s ho sc40 (.tmp rfl) rfl (ldSl_out hp6))) rfl ?_
      refine x_go (f_op (dst := some 21) (ts := [0]) rfl (by intro _ _ h; cases h) (by kernel_rfl) (fun _ _ ho => ok_move ho (.tmp rfl))) rfl ?_
      obtain ⟨p7, hp7, h⟩ := bindo h
      refine x_go (f_op (dst := some 22) (ts := [21]) rfl (by intro _ _ h; cases h) (by kernel_rfl) (fun _ _ ho => ok_nilCheck_p ho (.tmp rfl) hp7)) rfl ?_
      refine x_go (f_op (dst := some 23) (ts := [22]) rfl (by intro _ _ h; cases h) (by kernel_rfl) (fun _ _ ho => ok_fieldAddr_s ho fi42_2 (by decide) (.tmp rfl) rfl)) rfl ?_
      try dsimp only [HAct.put, List.set_cons_zero, List.set_cons_succ]
      obtain ⟨p8, hp8, h⟩ := bindo h
      refine x_go (r_op (dst := some 24) (ts := [23]) rfl (by intro _ _ h; cases h) (by kernel_rfl) (fun _ ho => ok_load_s ho sc3 (.tmp rfl) rfl (ldI_out hp8))) rfl ?_
      refine x_go (f_op (dst := some 25) (ts := [24]) rfl (by intro _ _ h; cases h) (by kernel_rfl) (fun _ _ ho => ok_ibin ho (.tmp rfl) (.int _ _) rfl)) rfl ?_
      refine x_go (f_op (dst := some 26) (ts := [4]) rfl (by intro _ _ h; cases h) (by kernel_rfl) (fun _ _ ho => ok_move ho (.tmp rfl))) rfl ?_
      refine x_go (f_op (dst := some 27) (ts := [25, 26]) rfl (by intro _ _ h; cases h) (by kernel_rfl) (fun _ _ ho => ok_ibin ho (.tmp rfl) (.tmp rfl) rfl)) rfl ?_
      try dsimp only [HAct.put, List.set_cons_zero, List.set_cons_succ]
      refine x_go (f_op (dst := some 28) (ts := [5]) rfl (by intro _ _ h; cases h) (by kernel_rfl) (fun _ _ ho => ok_move ho (.tmp rfl))) rfl ?_
      obtain ⟨hg9, h⟩ := gd h
      refine x_go (f_op (dst := some 29) (ts := [27, 28]) rfl (by intro _ _ h; cases h) (by kernel_rfl) (fun _ _ ho => ok_rem ho (.tmp rfl) (.tmp rfl) hg9)) rfl ?_
      refine x_go (f_op (dst := some 30) (ts := [5]) rfl (by intro _ _ h; cases h) (by kernel_rfl) (fun _ _ ho => ok_move ho (.tmp rfl))) rfl ?_
      refine x_go (f_op (dst := some 31) (ts := [29, 30]) rfl (by intro _ _ h; cases h) (by kernel_rfl) (fun _ _ ho => ok_ibin ho (.tmp rfl) (.tmp rfl) rfl)) rfl ?_
      try dsimp only [HAct.put, List.set_cons_zero, List.set_cons_succ]
      refine x_go (f_op (dst := some 32) (ts := [5]) rfl (by intro _ _ h; cases h) (by kernel_rfl) (fun _ _ ho => ok_move ho (.tmp rfl))) rfl ?_
      obtain ⟨hg10, h⟩ := gd h
      refine x_go (f_op (dst := some 33) (ts := [31, 32]) rfl (by intro _ _ h; cases h) (by kernel_rfl) (fun _ _ ho => ok_rem ho (.tmp rfl) (.tmp rfl) hg10)) rfl ?_
      obtain ⟨p11, hp11, h⟩ := bindo h
      refine x_go (r_op (dst := some 34) (ts := [20, 33]) rfl (by intro _ _ h; cases h) (by kernel_rfl) (fun _ ho => ok_indexAddr (s := p6) ho tu40 sz44 (.tmp rfl) (.tmp rfl) hp11)) rfl ?_
      obtain ⟨p12, hp12, h⟩ := bindo h
      obtain ⟨p13, hp13, h⟩ := bindo h
      refine x_go (r_op (dst := some 35) (ts := [34]) rfl (by intro _ _ h; cases h) (by kernel_rfl) (fun _ ho => ok_load_a (vs := [(.str p12), (.int .i64 p13)]) ho ia44 (.tmp rfl) rfl ⟨ldS_out hp12, ldI_out hp13, trivial⟩ (by simp))) rfl ?_
      try dsimp only [HAct.put, List.set_cons_zero, List.set_cons_succ]
      obtain ⟨p14, hp14, h⟩ := leto h
      refine x_go (e_op (dst := some 36) (ts := [35]) rfl (by intro _ _ h; cases h) (by kernel_rfl) (fun _ ho => ok_buildSlice_s (xs := [(.tmp 35)]) el40 ho rfl rfl (by decide) (.cons (.tmp rfl) Evs.nil) rfl rfl hp14)) rfl ?_
      obtain ⟨p15, hp15, h⟩ := bindo h
      obtain ⟨p16, hp16, h⟩ := bindo h
      refine x_go (e_op (dst := some 37) (ts := [16, 36]) rfl (by intro _ _ h; cases h) (by kernel_rfl) (fun _ ho => ok_append (s := y3) (s1 := (p14.1)) el40 ho rfl rfl ⟨_, tu40⟩ (.tmp rfl) (.tmp rfl) hp15 hp16)) rfl ?_
      refine x_go (f_op (dst := some 3) (ts := [37]) rfl (by intro _ _ h; cases h) (by kernel_rfl) (fun _ _ ho => ok_assign ho (.tmp rfl))) rfl ?_
      refine x_rest rfl ?_
      refine hr_region_end ?_
      try dsimp only [HAct.put, List.set_cons_zero, List.set_cons_succ]
      refine hr_inBlock ?_
      refine q_region e22 rfl ?_
      refine q_op (dst := some 38) rfl (fun _ ho => ok_ibin ho (.tmp rfl) (.int _ _) rfl) ?_
      refine q_op (dst := some 8) rfl (fun _ ho => ok_move ho (.tmp rfl)) ?_
      refine hr_region_end ?_
      try dsimp only [HAct.put, List.set_cons_zero, List.set_cons_succ]
      try dsimp only [HAct.put, List.set_cons_zero, List.set_cons_succ]
      exact ih h
    · refine q_cond_f e12 (.tmp rfl) (decide_eq_false hc2) ?_
      refine q_exit e14 rfl ?_
      refine q_seq e23 ?_
      refine q_region e24 rfl ?_
      refine q_op (dst := some 39) rfl (fun _ ho => ok_move ho (.tmp rfl)) ?_
      refine q_op (dst := some 2) rfl (fun _ ho => ok_assign ho (.tmp rfl)) ?_
      refine hr_region_end ?_
      try dsimp only [HAct.put, List.set_cons_zero, List.set_cons_succ]
      cases h
      exact q_ret e25 at_.at_ rfl (res1 rfl rfl) ⟨rfl, rfl⟩
def f (k : Nat) (x0 : (Option HA)) (S : HS) : Option ((Sl) × HS) :=
  (Option.bind (was_Past_int_Len.f x0 S) fun p1 =>
  L0 k k x0 Sl.nil p1.1 0 p1.2)
theorem snd {k : Nat} {x0 : (Option HA)} {S : HS}  {p : (Sl) × HS} (h : f k x0 S = some p) : HCall Try.prog base W0 β0 14 [(.ptr x0)] S (fun v S1 => v = (Sl.hv p.1) ∧ S1 = p.2) := by
  unfold f at h
  refine HCall.of_run at_.at_ body ?_
  show HRun Try.prog base W0 β0 14 none [.code c0] ⟨[(.ptr x0), .tup [], .tup [], .tup [], .tup [], .tup [], .tup [], .tup [], .tup [], .tup [], .tup [], .tup [], .tup [], .tup [], .tup [], .tup [], .tup [], .tup [], .tup [], .tup [], .tup [], .tup [], .tup [], .tup [], .tup [], .tup [], .tup [], .tup [], .tup [], .tup [], .tup [], .tup [], .tup [], .tup [], .tup [], .tup [], .tup [], .tup [], .tup [], .tup []], []⟩ S _
  refine q_seq e0 ?_
  refine q_region e1 rfl ?_
  refine q_op (dst := some 2) rfl (fun _ ho => ok_assign ho (.const fun _ => .slNil none)) ?_
  refine hr_region_end ?_
  try dsimp only [HAct.put, List.set_cons_zero, List.set_cons_succ]
  refine q_seq e2 ?_
  refine q_region e3 rfl ?_
  refine q_op (dst := some 3) rfl (fun _ ho => ok_assign ho (.const fun _ => .slNil none)) ?_
  refine hr_region_end ?_
  try dsimp only [HAct.put, List.set_cons_zero, List.set_cons_succ]
  refine q_seq e4 ?_
  refine q_seq e5 ?_
  refine q_region e6 rfl ?_
  refine q_op (dst := some 6) rfl (fun _ ho => ok_move ho (.tmp rfl)) ?_
  obtain ⟨p1, hp1, h⟩ := bindo h
  refine q_call (dst := some 7) rfl (.func _) (.cons (.tmp rfl) Evs.nil) (HInv.static was_Past_int_Len.at_ was_Past_int_Len.body (was_Past_int_Len.snd  hp1)) ?_
  rintro _ _ ⟨rfl, rfl⟩
  refine q_op (dst := some 8) rfl (fun _ ho => ok_move ho (.int _ _)) ?_
  refine hr_region_end ?_
  try dsimp only [HAct.put, List.set_cons_zero, List.set_cons_succ]
  refine q_block e7 ?_
  refine q_loop e8 ?_
  try dsimp only [HAct.put, List.set_cons_zero, List.set_cons_succ]
  exact L0_snd  h
end
end was_Past_int_rows
namespace was_Past_int_All_1
abbrev id : Nat := 15
theorem at_ : FnAt Try.prog 15 Try.f15 := ⟨Try.func15, by kernel_rfl⟩
noncomputable def c0 : Code := (Try.f15.body).getD .skip
noncomputable def c1 : Code := match c0 with | .seq x _ => x | _ => .skip
noncomputable def c2 : Code := match c0 with | .seq _ x => x | _ => .skip
noncomputable def c3 : Code := match c2 with | .block _ x => x | _ => .skip
noncomputable def c4 : Code := match c3 with | .loop x => x | _ => .skip
noncomputable def c5 : Code := match c4 with | .seq x _ => x | _ => .skip
noncomputable def c6 : Code := match c4 with | .seq _ x => x | _ => .skip
noncomputable def c7 : Code := match c6 with | .seq x _ => x | _ => .skip
noncomputable def c8 : Code := match c7 with | .cond _ x _ => x | _ => .skip
noncomputable def c9 : Code := match c7 with | .cond _ _ x => x | _ => .skip
noncomputable def c10 : Code := match c6 with | .seq _ x => x | _ => .skip
noncomputable def c11 : Code := match c10 with | .seq x _ => x | _ => .skip
noncomputable def c12 : Code := match c11 with | .block _ x => x | _ => .skip
noncomputable def c13 : Code := match c12 with | .seq x _ => x | _ => .skip
noncomputable def c14 : Code := match c12 with | .seq _ x => x | _ => .skip
noncomputable def c15 : Code := match c14 with | .seq x _ => x | _ => .skip
noncomputable def c16 : Code := match c14 with | .seq _ x => x | _ => .skip
noncomputable def c17 : Code := match c16 with | .cond _ x _ => x | _ => .skip
noncomputable def c18 : Code := match c16 with | .cond _ _ x => x | _ => .skip
noncomputable def c19 : Code := match c10 with | .seq _ x => x | _ => .skip
theorem e0 : c0 = .seq c1 c2 := by kernel_rfl
noncomputable def r1 : Array Oper := match c1 with | .region _ x _ => x | _ => #[]
theorem e1 : c1 = .region 0 r1 false := by kernel_rfl
theorem e2 : c2 = .block 0 c3 := by kernel_rfl
theorem e3 : c3 = .loop c4 := by kernel_rfl
theorem e4 : c4 = .seq c5 c6 := by kernel_rfl
noncomputable def r5 : Array Oper := match c5 with | .region _ x _ => x | _ => #[]
theorem e5 : c5 = .region 1 r5 false := by kernel_rfl
theorem e6 : c6 = .seq c7 c10 := by kernel_rfl
theorem e7 : c7 = .cond (.tmp 8) c8 c9 := by kernel_rfl
theorem e8 : c8 = .skip := by kernel_rfl
theorem e9 : c9 = .exit 0 := by kernel_rfl
theorem e10 : c10 = .seq c11 c19 := by kernel_rfl
theorem e11 : c11 = .block 1 c12 := by kernel_rfl
theorem e12 : c12 = .seq c13 c14 := by kernel_rfl
noncomputable def r13 : Array Oper := match c13 with | .region _ x _ => x | _ => #[]
theorem e13 : c13 = .region 2 r13 false := by kernel_rfl
theorem e14 : c14 = .seq c15 c16 := by kernel_rfl
noncomputable def r15 : Array Oper := match c15 with | .region _ x _ => x | _ => #[]
theorem e15 : c15 = .region 3 r15 false := by kernel_rfl
theorem e16 : c16 = .cond (.tmp 17) c17 c18 := by kernel_rfl
theorem e17 : c17 = .ret := by kernel_rfl
theorem e18 : c18 = .skip := by kernel_rfl
noncomputable def r19 : Array Oper := match c19 with | .region _ x _ => x | _ => #[]
theorem e19 : c19 = .region 4 r19 false := by kernel_rfl
theorem body : Try.f15.body = some c0 := by kernel_rfl
section
variable {base : Nat} {W0 : World} {β0 : Bt}
def L0 (D : Dp) (H : Hd) (k : Nat) : Nat → HV → Sl → Int → Int → HS → Option ((Unit) × HS)
  | 0, _, _, _, _, _ => none
  | n + 1, y0, y5, y6, y7, S =>
    (if y7 < y6 then
    (Option.bind (HS.idx S y5 y7 2) fun p4 =>
    (Option.bind (HS.ldS S (HA.fld p4 0)) fun p5 =>
    (Option.bind (HS.ldI S .i64 (HA.fld p4 1)) fun p6 =>
    (letv (HS.new S (.cells 2 [[(.str []), (.int .i64 0)]] true)) fun p7 =>
    (Option.bind (HS.sets p7 (HA.cell0 S.next) [(.str p5), (.int .i64 p6)]) fun p8 =>
    (Option.bind (HS.ldS p8 (HA.fld (HA.cell0 S.next) 0)) fun p9 =>
    (Option.bind (HS.ldI p8 .i64 (HA.fld (HA.cell0 S.next) 1)) fun p10 =>
    (Option.bind (D H y0 [(.str p9), (.int .i64 p10)] p8) fun p11 =>
    (Option.bind (dB p11.1) fun p12 =>
    (if (!p12) = true then
    some ((), p11.2) else
    (L0 D H k n) y0 y5 y6 (w64 (y7 + 1)) p11.2)))))))))) else
    some ((), S))
theorem L0_snd {D : Dp} {H : Hd} {k : Nat} (hD : DSound Try.prog base W0 D) (hH : HSound Try.prog base W0 β0 H)  : ∀ {n : Nat} ⦃y0 : HV⦄ ⦃y5 : Sl⦄ ⦃y6 : Int⦄ ⦃y7 : Int⦄ ⦃S : HS⦄ ⦃p : (Unit) × HS⦄ ⦃g1 g2 g3 g4 g8 g9 g10 g11 g12 g13 g14 g15 g16 g17 g18 : HV⦄, L0 D H k n y0 y5 y6 y7 S = some p → HRun Try.prog base W0 β0 15 none [.inLoop c4, .inBlock 0] ⟨[y0, g1, g2, g3, g4, (Sl.hv y5), (.int .i64 y6), (.int .i64 y7), g8, g9, g10, g11, g12, g13, g14, g15, g16, g17, g18], []⟩ S (fun v S1 => v = (.tup []) ∧ S1 = p.2) := by
  intro n
  induction n with
  | zero => intro _ _ _ _ _ _ _ _ _ _ _ _ _ _ _ _ _ _ _ _ _ h; cases h
  | succ n ih =>
    intro y0 y5 y6 y7 S p g1 g2 g3 g4 g8 g9 g10 g11 g12 g13 g14 g15 g16 g17 g18 h
    simp only [L0] at h
    refine hr_inLoop ?_
    refine q_seq e4 ?_
    refine q_region e5 rfl ?_
    refine q_op (dst := some 8) rfl (fun _ ho => ok_ibin ho (.tmp rfl) (.tmp rfl) rfl) ?_
    refine hr_region_end ?_
    try dsimp only [HAct.put, List.set_cons_zero, List.set_cons_succ]
    refine q_seq e6 ?_
    rcases ifc h with ⟨hc3, h⟩ | ⟨hc3, h⟩
    · refine q_cond_t e7 (.tmp rfl) (decide_eq_true hc3) ?_
      refine q_skipc e8 ?_
      refine q_seq e10 ?_
      refine q_block e11 ?_
      refine q_seq e12 ?_
      refine q_region e13 rfl ?_
      obtain ⟨p4, hp4, h⟩ := bindo h
      refine q_op (dst := some 9) rfl (fun _ ho => ok_indexAddr (s := y5) ho tu40 sz44 (.tmp rfl) (.tmp rfl) hp4) ?_
      obtain ⟨p5, hp5, h⟩ := bindo h
      obtain ⟨p6, hp6, h⟩ := bindo h
      refine q_op (dst := some 10) rfl (fun _ ho => ok_load_a (vs := [(.str p5), (.int .i64 p6)]) ho ia44 (.tmp rfl) rfl ⟨ldS_out hp5, ldI_out hp6, trivial⟩ (by simp)) ?_
      obtain ⟨p7, hp7, h⟩ := leto h
      refine q_op (dst := some 4) rfl (fun _ ho => ok_alloc_e ho zi44 zr44 (by decide) rfl hp7) ?_
      obtain ⟨p8, hp8, h⟩ := bindo h
      refine q_op (dst := none) rfl (fun _ ho => ok_store_s (v := (.agg [(.str p5), (.int .i64 p6)])) ho sz44 (.tmp rfl) rfl (.tmp rfl) rfl hp8) ?_
      refine hr_region_end ?_
      try dsimp only [HAct.put, List.set_cons_zero, List.set_cons_succ]
      refine q_seq e14 ?_
      refine q_region e15 rfl ?_
      refine q_op (dst := some 11) rfl (fun _ ho => ok_move ho (.tmp rfl)) ?_
      refine q_op (dst := some 12) rfl (fun _ ho => ok_fieldAddr_s ho fi44_0 (by decide) (.tmp rfl) rfl) ?_
      obtain ⟨p9, hp9, h⟩ := bindo h
      refine q_op (dst := some 13) rfl (fun _ ho => ok_load_s ho sc9 (.tmp rfl) rfl (ldS_out hp9)) ?_
      refine q_op (dst := some 14) rfl (fun _ ho => ok_fieldAddr_s ho fi44_1 (by decide) (.tmp rfl) rfl) ?_
      try dsimp only [HAct.put, List.set_cons_zero, List.set_cons_succ]
      obtain ⟨p10, hp10, h⟩ := bindo h
      refine q_op (dst := some 15) rfl (fun _ ho => ok_load_s ho sc3 (.tmp rfl) rfl (ldI_out hp10)) ?_
      obtain ⟨p11, hp11, h⟩ := bindo h
      obtain ⟨p12, hp12, h⟩ := bindo h
      refine q_call (dst := some 16) rfl (.tmp rfl) (.cons (.tmp rfl) (.cons (.tmp rfl) Evs.nil)) (hD _ _ hH _ _ _ _ _ hp11) ?_
      rintro _ _ ⟨rfl, rfl⟩
      rw [dB_out hp12]
      refine q_op (dst := some 17) rfl (fun _ ho => ok_not ho (.tmp rfl)) ?_
      refine hr_region_end ?_
      try dsimp only [HAct.put, List.set_cons_zero, List.set_cons_succ]
      rcases ifc h with ⟨hc13, h⟩ | ⟨hc13, h⟩
      · refine q_cond_t e16 (.tmp rfl) hc13 ?_
        cases h
        exact q_ret e17 at_.at_ rfl (res0 rfl) ⟨rfl, rfl⟩
      · refine q_cond_f e16 (.tmp rfl) (bfalse hc13) ?_
        refine q_skipc e18 ?_
        refine hr_inBlock ?_
        refine q_region e19 rfl ?_
        refine q_op (dst := some 18) rfl (fun _ ho => ok_ibin ho (.tmp rfl) (.int _ _) rfl) ?_
        refine q_op (dst := some 7) rfl (fun _ ho => ok_move ho (.tmp rfl)) ?_
        refine hr_region_end ?_
        try dsimp only [HAct.put, List.set_cons_zero, List.set_cons_succ]
        try dsimp only [HAct.put, List.set_cons_zero, List.set_cons_succ]
        exact ih h
    · refine q_cond_f e7 (.tmp rfl) (decide_eq_false hc3) ?_
      refine q_exit e9 rfl ?_
      cases h
      exact q_end at_.at_ rfl (res0 rfl) ⟨rfl, rfl⟩
def f (D : Dp) (H : Hd) (k : Nat) (x0 : HV) (x1 : (Option HA)) (S : HS) : Option ((Unit) × HS) :=
  (Option.bind (x1) fun p1 =>
  (Option.bind (HS.ldSl S p1) fun p2 =>
  L0 D H k k x0 p2 (Sl.len p2 : Int) 0 S))
theorem snd {D : Dp} {H : Hd} {k : Nat} {x0 : HV} {x1 : (Option HA)} {S : HS} (hD : DSound Try.prog base W0 D) (hH : HSound Try.prog base W0 β0 H)  {p : (Unit) × HS} (h : f D H k x0 x1 S = some p) : HCall Try.prog base W0 β0 15 [x0, (.ptr x1)] S (fun v S1 => v = (.tup []) ∧ S1 = p.2) := by
  unfold f at h
  refine HCall.of_run at_.at_ body ?_
  show HRun Try.prog base W0 β0 15 none [.code c0] ⟨[x0, (.ptr x1), .tup [], .tup [], .tup [], .tup [], .tup [], .tup [], .tup [], .tup [], .tup [], .tup [], .tup [], .tup [], .tup [], .tup [], .tup [], .tup [], .tup []], []⟩ S _
  refine q_seq e0 ?_
  refine q_region e1 rfl ?_
  obtain ⟨p1, hp1, h⟩ := bindo h
  obtain ⟨p2, hp2, h⟩ := bindo h
  refine q_op (dst := some 5) rfl (fun _ ho => ok_load_s ho sc40 (.tmp rfl) hp1 (ldSl_out hp2)) ?_
  refine q_op (dst := some 6) rfl (fun _ ho => ok_len_sl (q := Sl.a p2) (n := Sl.len p2) (z := Sl.cap p2) ho rfl tu40 (.tmp rfl)) ?_
  refine q_op (dst := some 7) rfl (fun _ ho => ok_move ho (.int _ _)) ?_
  refine hr_region_end ?_
  try dsimp only [HAct.put, List.set_cons_zero, List.set_cons_succ]
  refine q_block e2 ?_
  refine q_loop e3 ?_
  try dsimp only [HAct.put, List.set_cons_zero, List.set_cons_succ]
  exact L0_snd hD hH h
end
end was_Past_int_All_1
namespace was_Past_int_All
abbrev id : Nat := 11
theorem at_ : FnAt Try.prog 11 Try.f11 := ⟨Try.func11, by kernel_rfl⟩
noncomputable def c0 : Code := (Try.f11.body).getD .skip
noncomputable def c1 : Code := match c0 with | .seq x _ => x | _ => .skip
noncomputable def c2 : Code := match c0 with | .seq _ x => x | _ => .skip
noncomputable def c3 : Code := match c2 with | .seq x _ => x | _ => .skip
noncomputable def c4 : Code := match c2 with | .seq _ x => x | _ => .skip
noncomputable def c5 : Code := match c4 with | .seq x _ => x | _ => .skip
noncomputable def c6 : Code := match c4 with | .seq _ x => x | _ => .skip
theorem e0 : c0 = .seq c1 c2 := by kernel_rfl
noncomputable def r1 : Array Oper := match c1 with | .region _ x _ => x | _ => #[]
theorem e1 : c1 = .region 0 r1 false := by kernel_rfl
theorem e2 : c2 = .seq c3 c4 := by kernel_rfl
noncomputable def r3 : Array Oper := match c3 with | .region _ x _ => x | _ => #[]
theorem e3 : c3 = .region 1 r3 false := by kernel_rfl
theorem e4 : c4 = .seq c5 c6 := by kernel_rfl
noncomputable def r5 : Array Oper := match c5 with | .region _ x _ => x | _ => #[]
theorem e5 : c5 = .region 2 r5 false := by kernel_rfl
theorem e6 : c6 = .ret := by kernel_rfl
theorem body : Try.f11.body = some c0 := by kernel_rfl
section
variable {base : Nat} {W0 : World} {β0 : Bt}
def f (k : Nat) (x0 : (Option HA)) (S : HS) : Option ((HV) × HS) :=
  (Option.bind (was_Past_int_rows.f k x0 S) fun p1 =>
  (letv (HS.new p1.2 (.cells 1 [[(Sl.hv Sl.nil)]] true)) fun p2 =>
  (Option.bind (HS.sets p2 (HA.cell0 p1.2.next) [(Sl.hv p1.1)]) fun p3 =>
  some ((HV.fn (.func 15) [] [(.ptr (some (HA.cell0 p1.2.next)))]), p3))))
theorem snd {k : Nat} {x0 : (Option HA)} {S : HS}  {p : (HV) × HS} (h : f k x0 S = some p) : HCall Try.prog base W0 β0 11 [(.ptr x0)] S (fun v S1 => v = p.1 ∧ S1 = p.2) := by
  unfold f at h
  refine HCall.of_run at_.at_ body ?_
  show HRun Try.prog base W0 β0 11 none [.code c0] ⟨[(.ptr x0), .tup [], .tup [], .tup [], .tup [], .tup [], .tup []], []⟩ S _
  refine q_seq e0 ?_
  refine q_region e1 rfl ?_
  refine q_op (dst := some 2) rfl (fun _ ho => ok_assign ho (.const fun _ => .nilFn)) ?_
  refine hr_region_end ?_
  try dsimp only [HAct.put, List.set_cons_zero, List.set_cons_succ]
  refine q_seq e2 ?_
  refine q_region e3 rfl ?_
  refine q_op (dst := some 4) rfl (fun _ ho => ok_move ho (.tmp rfl)) ?_
  obtain ⟨p1, hp1, h⟩ := bindo h
  refine q_call (dst := some 5) rfl (.func _) (.cons (.tmp rfl) Evs.nil) (HInv.static was_Past_int_rows.at_ was_Past_int_rows.body (was_Past_int_rows.snd  hp1)) ?_
  rintro _ _ ⟨rfl, rfl⟩
  obtain ⟨p2, hp2, h⟩ := leto h
  refine q_op (dst := some 3) rfl (fun _ ho => ok_alloc_e ho zi40 zr40 (by decide) rfl hp2) ?_
  obtain ⟨p3, hp3, h⟩ := bindo h
  refine q_op (dst := none) rfl (fun _ ho => ok_store_s (v := (Sl.hv p1.1)) ho sz40 (.tmp rfl) rfl (.tmp rfl) rfl hp3) ?_
  refine hr_region_end ?_
  try dsimp only [HAct.put, List.set_cons_zero, List.set_cons_succ]
  refine q_seq e4 ?_
  refine q_region e5 rfl ?_
  refine q_op (dst := some 6) rfl (fun _ ho => ok_makeFunc ho Evs.nil (.cons (.tmp rfl) Evs.nil)) ?_
  refine q_op (dst := some 2) rfl (fun _ ho => ok_assign ho (.tmp rfl)) ?_
  refine hr_region_end ?_
  try dsimp only [HAct.put, List.set_cons_zero, List.set_cons_succ]
  cases h
  exact q_ret e6 at_.at_ rfl (res1 rfl rfl) ⟨rfl, rfl⟩
end
end was_Past_int_All
namespace fold_Byte
abbrev id : Nat := 21
theorem at_ : FnAt Try.prog 21 Try.f21 := ⟨Try.func21, by kernel_rfl⟩
noncomputable def c0 : Code := (Try.f21.body).getD .skip
noncomputable def c1 : Code := match c0 with | .seq x _ => x | _ => .skip
noncomputable def c2 : Code := match c0 with | .seq _ x => x | _ => .skip
noncomputable def c3 : Code := match c2 with | .seq x _ => x | _ => .skip
noncomputable def c4 : Code := match c3 with | .block _ x => x | _ => .skip
noncomputable def c5 : Code := match c4 with | .seq x _ => x | _ => .skip
noncomputable def c6 : Code := match c4 with | .seq _ x => x | _ => .skip
noncomputable def c7 : Code := match c6 with | .cond _ x _ => x | _ => .skip
noncomputable def c8 : Code := match c7 with | .seq x _ => x | _ => .skip
noncomputable def c9 : Code := match c7 with | .seq _ x => x | _ => .skip
noncomputable def c10 : Code := match c6 with | .cond _ _ x => x | _ => .skip
noncomputable def c11 : Code := match c10 with | .seq x _ => x | _ => .skip
noncomputable def c12 : Code := match c10 with | .seq _ x => x | _ => .skip
noncomputable def c13 : Code := match c12 with | .cond _ x _ => x | _ => .skip
noncomputable def c14 : Code := match c13 with | .seq x _ => x | _ => .skip
noncomputable def c15 : Code := match c13 with | .seq _ x => x | _ => .skip
noncomputable def c16 : Code := match c12 with | .cond _ _ x => x | _ => .skip
noncomputable def c17 : Code := match c16 with | .seq x _ => x | _ => .skip
noncomputable def c18 : Code := match c16 with | .seq _ x => x | _ => .skip
noncomputable def c19 : Code := match c18 with | .cond _ x _ => x | _ => .skip
noncomputable def c20 : Code := match c19 with | .seq x _ => x | _ => .skip
noncomputable def c21 : Code := match c19 with | .seq _ x => x | _ => .skip
noncomputable def c22 : Code := match c18 with | .cond _ _ x => x | _ => .skip
noncomputable def c23 : Code := match c2 with | .seq _ x => x | _ => .skip
noncomputable def c24 : Code := match c23 with | .seq x _ => x | _ => .skip
noncomputable def c25 : Code := match c23 with | .seq _ x => x | _ => .skip
theorem e0 : c0 = .seq c1 c2 := by kernel_rfl
noncomputable def r1 : Array Oper := match c1 with | .region _ x _ => x | _ => #[]
theorem e1 : c1 = .region 0 r1 false := by kernel_rfl
theorem e2 : c2 = .seq c3 c23 := by kernel_rfl
theorem e3 : c3 = .block 0 c4 := by kernel_rfl
theorem e4 : c4 = .seq c5 c6 := by kernel_rfl
noncomputable def r5 : Array Oper := match c5 with | .region _ x _ => x | _ => #[]
theorem e5 : c5 = .region 1 r5 false := by kernel_rfl
theorem e6 : c6 = .cond (.tmp 3) c7 c10 := by kernel_rfl
theorem e7 : c7 = .seq c8 c9 := by kernel_rfl
noncomputable def r8 : Array Oper := match c8 with | .region _ x _ => x | _ => #[]
theorem e8 : c8 = .region 2 r8 false := by kernel_rfl
theorem e9 : c9 = .ret := by kernel_rfl
theorem e10 : c10 = .seq c11 c12 := by kernel_rfl
noncomputable def r11 : Array Oper := match c11 with | .region _ x _ => x | _ => #[]
theorem e11 : c11 = .region 3 r11 false := by kernel_rfl
theorem e12 : c12 = .cond (.tmp 12) c13 c16 := by kernel_rfl
theorem e13 : c13 = .seq c14 c15 := by kernel_rfl
noncomputable def r14 : Array Oper := match c14 with | .region _ x _ => x | _ => #[]
theorem e14 : c14 = .region 4 r14 false := by kernel_rfl
theorem e15 : c15 = .ret := by kernel_rfl
theorem e16 : c16 = .seq c17 c18 := by kernel_rfl
noncomputable def r17 : Array Oper := match c17 with | .region _ x _ => x | _ => #[]
theorem e17 : c17 = .region 5 r17 false := by kernel_rfl
theorem e18 : c18 = .cond (.tmp 25) c19 c22 := by kernel_rfl
theorem e19 : c19 = .seq c20 c21 := by kernel_rfl
noncomputable def r20 : Array Oper := match c20 with | .region _ x _ => x | _ => #[]
theorem e20 : c20 = .region 6 r20 false := by kernel_rfl
theorem e21 : c21 = .ret := by kernel_rfl
theorem e22 : c22 = .skip := by kernel_rfl
theorem e23 : c23 = .seq c24 c25 := by kernel_rfl
noncomputable def r24 : Array Oper := match c24 with | .region _ x _ => x | _ => #[]
theorem e24 : c24 = .region 7 r24 false := by kernel_rfl
theorem e25 : c25 = .ret := by kernel_rfl
theorem body : Try.f21.body = some c0 := by kernel_rfl
section
variable {base : Nat} {W0 : World} {β0 : Bt}
def J2  (y0 : Int) (y22 : Bool) : Option (Int) :=
  (if y22 = true then
  some (w8 (y0 + 32)) else
  (if y0 = 126 then
  some 94 else
  some y0))
theorem J2_snd   {y0 : Int} {y22 : Bool} {S : HS} {p : Int} {g1 g2 g3 g4 g5 g6 g7 g8 g9 g10 g11 g12 g13 g14 g15 g16 g17 g18 g19 g20 g21 g23 g24 g25 g26 g27 g28 : HV} (h : J2  y0 y22 = some p) : HRun Try.prog base W0 β0 21 none [.inRegion r11 [10], .code c12, .inBlock 0, .code c23] ⟨[(.int .u8 y0), g1, g2, g3, g4, g5, g6, g7, g8, g9, g10, g11, g12, g13, g14, g15, g16, g17, g18, g19, g20, g21, (.bool y22), g23, g24, g25, g26, g27, g28], []⟩ S (fun v S1 => v = (.int .u8 p) ∧ S1 = S) := by
  unfold J2 at h
  refine q_op (dst := some 12) rfl (fun _ ho => ok_assign ho (.tmp rfl)) ?_
  refine hr_region_end ?_
  try dsimp only [HAct.put, List.set_cons_zero, List.set_cons_succ]
  rcases ifc h with ⟨hc5, h⟩ | ⟨hc5, h⟩
  · refine q_cond_t e12 (.tmp rfl) hc5 ?_
    refine q_seq e13 ?_
    refine q_region e14 rfl ?_
    refine q_op (dst := some 23) rfl (fun _ ho => ok_move ho (.tmp rfl)) ?_
    refine q_op (dst := some 24) rfl (fun _ ho => ok_ibin ho (.tmp rfl) (.int _ _) rfl) ?_
    refine q_op (dst := some 2) rfl (fun _ ho => ok_assign ho (.tmp rfl)) ?_
    refine hr_region_end ?_
    try dsimp only [HAct.put, List.set_cons_zero, List.set_cons_succ]
    cases h
    exact q_ret e15 at_.at_ rfl (res1 rfl rfl) ⟨rfl, rfl⟩
  · refine q_cond_f e12 (.tmp rfl) (bfalse hc5) ?_
    refine q_seq e16 ?_
    refine q_region e17 rfl ?_
    refine q_op (dst := some 26) rfl (fun _ ho => ok_move ho (.tmp rfl)) ?_
    refine q_op (dst := some 27) rfl (fun _ ho => ok_ibin ho (.tmp rfl) (.int _ _) rfl) ?_
    refine q_op (dst := some 25) rfl (fun _ ho => ok_assign ho (.tmp rfl)) ?_
    refine hr_region_end ?_
    try dsimp only [HAct.put, List.set_cons_zero, List.set_cons_succ]
    rcases ifc h with ⟨hc6, h⟩ | ⟨hc6, h⟩
    · refine q_cond_t e18 (.tmp rfl) (decide_eq_true hc6) ?_
      refine q_seq e19 ?_
      refine q_region e20 rfl ?_
      refine q_op (dst := some 2) rfl (fun _ ho => ok_assign ho (.int _ _)) ?_
      refine hr_region_end ?_
      try dsimp only [HAct.put, List.set_cons_zero, List.set_cons_succ]
      cases h
      exact q_ret e21 at_.at_ rfl (res1 rfl rfl) ⟨rfl, rfl⟩
    · refine q_cond_f e18 (.tmp rfl) (decide_eq_false hc6) ?_
      refine q_skipc e22 ?_
      refine hr_inBlock ?_
      refine q_seq e23 ?_
      refine q_region e24 rfl ?_
      refine q_op (dst := some 28) rfl (fun _ ho => ok_move ho (.tmp rfl)) ?_
      refine q_op (dst := some 2) rfl (fun _ ho => ok_assign ho (.tmp rfl)) ?_
      refine hr_region_end ?_
      try dsimp only [HAct.put, List.set_cons_zero, List.set_cons_succ]
      cases h
      exact q_ret e25 at_.at_ rfl (res1 rfl rfl) ⟨rfl, rfl⟩
def J1  (y0 : Int) (y18 : Bool) : Option (Int) :=
  (if y18 = true then
  J2 y0 true else
  J2 y0 (decide (y0 = 92)))
theorem J1_snd   {y0 : Int} {y18 : Bool} {S : HS} {p : Int} {g1 g2 g3 g4 g5 g6 g7 g8 g9 g10 g11 g12 g13 g14 g15 g16 g17 g19 g20 g21 g22 g23 g24 g25 g26 g27 g28 : HV} (h : J1  y0 y18 = some p) : HRun Try.prog base W0 β0 21 none [.inRegion r11 [6, 7, 8, 9, 10], .code c12, .inBlock 0, .code c23] ⟨[(.int .u8 y0), g1, g2, g3, g4, g5, g6, g7, g8, g9, g10, g11, g12, g13, g14, g15, g16, g17, (.bool y18), g19, g20, g21, g22, g23, g24, g25, g26, g27, g28], []⟩ S (fun v S1 => v = (.int .u8 p) ∧ S1 = S) := by
  unfold J1 at h
  refine q_op (dst := some 19) rfl (fun _ ho => ok_move ho (.tmp rfl)) ?_
  rcases ifc h with ⟨hc4, h⟩ | ⟨hc4, h⟩
  · refine q_skip (dst := some 20) (t := 19) rfl rfl rfl hc4 ?_
    try dsimp only [HAct.put, List.set_cons_zero, List.set_cons_succ]
    refine q_skip (dst := some 21) (t := 19) rfl rfl rfl hc4 ?_
    refine q_op (dst := some 22) rfl (fun _ ho => ok_pick_tt ho (.tmp rfl) hc4 (.bool _)) ?_
    try dsimp only [HAct.put, List.set_cons_zero, List.set_cons_succ]
    exact J2_snd  h
  · refine q_op_g (t := 19) (dst := some 20) rfl rfl rfl (bfalse hc4) (fun _ ho => ok_move ho (.tmp rfl)) ?_
    try dsimp only [HAct.put, List.set_cons_zero, List.set_cons_succ]
    refine q_op_g (t := 19) (dst := some 21) rfl rfl rfl (bfalse hc4) (fun _ ho => ok_ibin ho (.tmp rfl) (.int _ _) rfl) ?_
    refine q_op (dst := some 22) rfl (fun _ ho => ok_pick_ff ho (.tmp rfl) (bfalse hc4) (.tmp rfl)) ?_
    try dsimp only [HAct.put, List.set_cons_zero, List.set_cons_succ]
    exact J2_snd  h
def J0  (y0 : Int) (y9 : Bool) : Option (Int) :=
  (if y9 = true then
  some (w8 (y0 + 32)) else
  (if y0 = 91 then
  J1 y0 true else
  J1 y0 (decide (y0 = 93))))
theorem J0_snd   {y0 : Int} {y9 : Bool} {S : HS} {p : Int} {g1 g2 g3 g4 g5 g6 g7 g8 g10 g11 g12 g13 g14 g15 g16 g17 g18 g19 g20 g21 g22 g23 g24 g25 g26 g27 g28 : HV} (h : J0  y0 y9 = some p) : HRun Try.prog base W0 β0 21 none [.inRegion r5 [6], .code c6, .inBlock 0, .code c23] ⟨[(.int .u8 y0), g1, g2, g3, g4, g5, g6, g7, g8, (.bool y9), g10, g11, g12, g13, g14, g15, g16, g17, g18, g19, g20, g21, g22, g23, g24, g25, g26, g27, g28], []⟩ S (fun v S1 => v = (.int .u8 p) ∧ S1 = S) := by
  unfold J0 at h
  refine q_op (dst := some 3) rfl (fun _ ho => ok_assign ho (.tmp rfl)) ?_
  refine hr_region_end ?_
  try dsimp only [HAct.put, List.set_cons_zero, List.set_cons_succ]
  rcases ifc h with ⟨hc2, h⟩ | ⟨hc2, h⟩
  · refine q_cond_t e6 (.tmp rfl) hc2 ?_
    refine q_seq e7 ?_
    refine q_region e8 rfl ?_
    refine q_op (dst := some 10) rfl (fun _ ho => ok_move ho (.tmp rfl)) ?_
    refine q_op (dst := some 11) rfl (fun _ ho => ok_ibin ho (.tmp rfl) (.int _ _) rfl) ?_
    refine q_op (dst := some 2) rfl (fun _ ho => ok_assign ho (.tmp rfl)) ?_
    refine hr_region_end ?_
    try dsimp only [HAct.put, List.set_cons_zero, List.set_cons_succ]
    cases h
    exact q_ret e9 at_.at_ rfl (res1 rfl rfl) ⟨rfl, rfl⟩
  · refine q_cond_f e6 (.tmp rfl) (bfalse hc2) ?_
    refine q_seq e10 ?_
    refine q_region e11 rfl ?_
    refine q_op (dst := some 13) rfl (fun _ ho => ok_move ho (.tmp rfl)) ?_
    refine q_op (dst := some 14) rfl (fun _ ho => ok_ibin ho (.tmp rfl) (.int _ _) rfl) ?_
    refine q_op (dst := some 15) rfl (fun _ ho => ok_move ho (.tmp rfl)) ?_
    rcases ifc h with ⟨hc3, h⟩ | ⟨hc3, h⟩
    · refine q_skip (dst := some 16) (t := 15) rfl rfl rfl (decide_eq_true hc3) ?_
      try dsimp only [HAct.put, List.set_cons_zero, List.set_cons_succ]
      refine q_skip (dst := some 17) (t := 15) rfl rfl rfl (decide_eq_true hc3) ?_
      refine q_op (dst := some 18) rfl (fun _ ho => ok_pick_tt ho (.tmp rfl) (decide_eq_true hc3) (.bool _)) ?_
      try dsimp only [HAct.put, List.set_cons_zero, List.set_cons_succ]
      exact J1_snd  h
    · refine q_op_g (t := 15) (dst := some 16) rfl rfl rfl (decide_eq_false hc3) (fun _ ho => ok_move ho (.tmp rfl)) ?_
      try dsimp only [HAct.put, List.set_cons_zero, List.set_cons_succ]
      refine q_op_g (t := 15) (dst := some 17) rfl rfl rfl (decide_eq_false hc3) (fun _ ho => ok_ibin ho (.tmp rfl) (.int _ _) rfl) ?_
      refine q_op (dst := some 18) rfl (fun _ ho => ok_pick_ff ho (.tmp rfl) (decide_eq_false hc3) (.tmp rfl)) ?_
      try dsimp only [HAct.put, List.set_cons_zero, List.set_cons_succ]
      exact J1_snd  h
def f (x0 : Int) : Option (Int) :=
  (if x0 ≥ 65 then
  J0 x0 (decide (x0 ≤ 90)) else
  J0 x0 false)
theorem snd {x0 : Int} {S : HS}  {p : Int} (h : f x0 = some p) : HCall Try.prog base W0 β0 21 [(.int .u8 x0)] S (fun v S1 => v = (.int .u8 p) ∧ S1 = S) := by
  unfold f at h
  refine HCall.of_run at_.at_ body ?_
  show HRun Try.prog base W0 β0 21 none [.code c0] ⟨[(.int .u8 x0), .tup [], .tup [], .tup [], .tup [], .tup [], .tup [], .tup [], .tup [], .tup [], .tup [], .tup [], .tup [], .tup [], .tup [], .tup [], .tup [], .tup [], .tup [], .tup [], .tup [], .tup [], .tup [], .tup [], .tup [], .tup [], .tup [], .tup [], .tup []], []⟩ S _
  refine q_seq e0 ?_
  refine q_region e1 rfl ?_
  refine q_op (dst := some 2) rfl (fun _ ho => ok_assign ho (.int _ _)) ?_
  refine hr_region_end ?_
  try dsimp only [HAct.put, List.set_cons_zero, List.set_cons_succ]
  refine q_seq e2 ?_
  refine q_block e3 ?_
  refine q_seq e4 ?_
  refine q_region e5 rfl ?_
  refine q_op (dst := some 4) rfl (fun _ ho => ok_move ho (.tmp rfl)) ?_
  refine q_op (dst := some 5) rfl (fun _ ho => ok_ibin ho (.tmp rfl) (.int _ _) rfl) ?_
  refine q_op (dst := some 6) rfl (fun _ ho => ok_move ho (.tmp rfl)) ?_
  rcases ifc h with ⟨hc1, h⟩ | ⟨hc1, h⟩
  · refine q_op_g (t := 6) (dst := some 7) rfl rfl rfl (decide_eq_true hc1) (fun _ ho => ok_move ho (.tmp rfl)) ?_
    try dsimp only [HAct.put, List.set_cons_zero, List.set_cons_succ]
    refine q_op_g (t := 6) (dst := some 8) rfl rfl rfl (decide_eq_true hc1) (fun _ ho => ok_ibin ho (.tmp rfl) (.int _ _) rfl) ?_
    refine q_op (dst := some 9) rfl (fun _ ho => ok_pick_tt ho (.tmp rfl) (decide_eq_true hc1) (.tmp rfl)) ?_
    try dsimp only [HAct.put, List.set_cons_zero, List.set_cons_succ]
    exact J0_snd  h
  · refine q_skip (dst := some 7) (t := 6) rfl rfl rfl (decide_eq_false hc1) ?_
    try dsimp only [HAct.put, List.set_cons_zero, List.set_cons_succ]
    refine q_skip (dst := some 8) (t := 6) rfl rfl rfl (decide_eq_false hc1) ?_
    refine q_op (dst := some 9) rfl (fun _ ho => ok_pick_ff ho (.tmp rfl) (decide_eq_false hc1) (.bool _)) ?_
    try dsimp only [HAct.put, List.set_cons_zero, List.set_cons_succ]
    exact J0_snd  h
end
end fold_Byte
namespace fold_Compare
abbrev id : Nat := 19
theorem at_ : FnAt Try.prog 19 Try.f19 := ⟨Try.func19, by kernel_rfl⟩
noncomputable def c0 : Code := (Try.f19.body).getD .skip
noncomputable def c1 : Code := match c0 with | .seq x _ => x | _ => .skip
noncomputable def c2 : Code := match c0 with | .seq _ x => x | _ => .skip
noncomputable def c3 : Code := match c2 with | .seq x _ => x | _ => .skip
noncomputable def c4 : Code := match c3 with | .seq x _ => x | _ => .skip
noncomputable def c5 : Code := match c3 with | .seq _ x => x | _ => .skip
noncomputable def c6 : Code := match c5 with | .block _ x => x | _ => .skip
noncomputable def c7 : Code := match c6 with | .loop x => x | _ => .skip
noncomputable def c8 : Code := match c7 with | .seq x _ => x | _ => .skip
noncomputable def c9 : Code := match c7 with | .seq _ x => x | _ => .skip
noncomputable def c10 : Code := match c9 with | .seq x _ => x | _ => .skip
noncomputable def c11 : Code := match c10 with | .cond _ x _ => x | _ => .skip
noncomputable def c12 : Code := match c10 with | .cond _ _ x => x | _ => .skip
noncomputable def c13 : Code := match c9 with | .seq _ x => x | _ => .skip
noncomputable def c14 : Code := match c13 with | .seq x _ => x | _ => .skip
noncomputable def c15 : Code := match c14 with | .block _ x => x | _ => .skip
noncomputable def c16 : Code := match c15 with | .seq x _ => x | _ => .skip
noncomputable def c17 : Code := match c15 with | .seq _ x => x | _ => .skip
noncomputable def c18 : Code := match c17 with | .seq x _ => x | _ => .skip
noncomputable def c19 : Code := match c17 with | .seq _ x => x | _ => .skip
noncomputable def c20 : Code := match c19 with | .seq x _ => x | _ => .skip
noncomputable def c21 : Code := match c20 with | .seq x _ => x | _ => .skip
noncomputable def c22 : Code := match c20 with | .seq _ x => x | _ => .skip
noncomputable def c23 : Code := match c22 with | .cond _ x _ => x | _ => .skip
noncomputable def c24 : Code := match c23 with | .seq x _ => x | _ => .skip
noncomputable def c25 : Code := match c23 with | .seq _ x => x | _ => .skip
noncomputable def c26 : Code := match c22 with | .cond _ _ x => x | _ => .skip
noncomputable def c27 : Code := match c19 with | .seq _ x => x | _ => .skip
noncomputable def c28 : Code := match c27 with | .seq x _ => x | _ => .skip
noncomputable def c29 : Code := match c27 with | .seq _ x => x | _ => .skip
noncomputable def c30 : Code := match c29 with | .cond _ x _ => x | _ => .skip
noncomputable def c31 : Code := match c30 with | .seq x _ => x | _ => .skip
noncomputable def c32 : Code := match c30 with | .seq _ x => x | _ => .skip
noncomputable def c33 : Code := match c29 with | .cond _ _ x => x | _ => .skip
noncomputable def c34 : Code := match c13 with | .seq _ x => x | _ => .skip
noncomputable def c35 : Code := match c2 with | .seq _ x => x | _ => .skip
noncomputable def c36 : Code := match c35 with | .seq x _ => x | _ => .skip
noncomputable def c37 : Code := match c36 with | .block _ x => x | _ => .skip
noncomputable def c38 : Code := match c37 with | .seq x _ => x | _ => .skip
noncomputable def c39 : Code := match c37 with | .seq _ x => x | _ => .skip
noncomputable def c40 : Code := match c39 with | .cond _ x _ => x | _ => .skip
noncomputable def c41 : Code := match c40 with | .seq x _ => x | _ => .skip
noncomputable def c42 : Code := match c40 with | .seq _ x => x | _ => .skip
noncomputable def c43 : Code := match c39 with | .cond _ _ x => x | _ => .skip
noncomputable def c44 : Code := match c43 with | .seq x _ => x | _ => .skip
noncomputable def c45 : Code := match c43 with | .seq _ x => x | _ => .skip
noncomputable def c46 : Code := match c45 with | .cond _ x _ => x | _ => .skip
noncomputable def c47 : Code := match c46 with | .seq x _ => x | _ => .skip
noncomputable def c48 : Code := match c46 with | .seq _ x => x | _ => .skip
noncomputable def c49 : Code := match c45 with | .cond _ _ x => x | _ => .skip
noncomputable def c50 : Code := match c35 with | .seq _ x => x | _ => .skip
noncomputable def c51 : Code := match c50 with | .seq x _ => x | _ => .skip
noncomputable def c52 : Code := match c50 with | .seq _ x => x | _ => .skip
theorem e0 : c0 = .seq c1 c2 := by kernel_rfl
noncomputable def r1 : Array Oper := match c1 with | .region _ x _ => x | _ => #[]
theorem e1 : c1 = .region 0 r1 false := by kernel_rfl
theorem e2 : c2 = .seq c3 c35 := by kernel_rfl
theorem e3 : c3 = .seq c4 c5 := by kernel_rfl
noncomputable def r4 : Array Oper := match c4 with | .region _ x _ => x | _ => #[]
theorem e4 : c4 = .region 1 r4 false := by kernel_rfl
theorem e5 : c5 = .block 0 c6 := by kernel_rfl
theorem e6 : c6 = .loop c7 := by kernel_rfl
theorem e7 : c7 = .seq c8 c9 := by kernel_rfl
noncomputable def r8 : Array Oper := match c8 with | .region _ x _ => x | _ => #[]
theorem e8 : c8 = .region 2 r8 false := by kernel_rfl
theorem e9 : c9 = .seq c10 c13 := by kernel_rfl
theorem e10 : c10 = .cond (.tmp 14) c11 c12 := by kernel_rfl
theorem e11 : c11 = .skip := by kernel_rfl
theorem e12 : c12 = .exit 0 := by kernel_rfl
theorem e13 : c13 = .seq c14 c34 := by kernel_rfl
theorem e14 : c14 = .block 1 c15 := by kernel_rfl
theorem e15 : c15 = .seq c16 c17 := by kernel_rfl
noncomputable def r16 : Array Oper := match c16 with | .region _ x _ => x | _ => #[]
theorem e16 : c16 = .region 3 r16 false := by kernel_rfl
theorem e17 : c17 = .seq c18 c19 := by kernel_rfl
noncomputable def r18 : Array Oper := match c18 with | .region _ x _ => x | _ => #[]
theorem e18 : c18 = .region 4 r18 true := by kernel_rfl
theorem e19 : c19 = .seq c20 c27 := by kernel_rfl
theorem e20 : c20 = .seq c21 c22 := by kernel_rfl
noncomputable def r21 : Array Oper := match c21 with | .region _ x _ => x | _ => #[]
theorem e21 : c21 = .region 5 r21 false := by kernel_rfl
theorem e22 : c22 = .cond (.tmp 26) c23 c26 := by kernel_rfl
theorem e23 : c23 = .seq c24 c25 := by kernel_rfl
noncomputable def r24 : Array Oper := match c24 with | .region _ x _ => x | _ => #[]
theorem e24 : c24 = .region 6 r24 false := by kernel_rfl
theorem e25 : c25 = .ret := by kernel_rfl
theorem e26 : c26 = .skip := by kernel_rfl
theorem e27 : c27 = .seq c28 c29 := by kernel_rfl
noncomputable def r28 : Array Oper := match c28 with | .region _ x _ => x | _ => #[]
theorem e28 : c28 = .region 7 r28 false := by kernel_rfl
theorem e29 : c29 = .cond (.tmp 29) c30 c33 := by kernel_rfl
theorem e30 : c30 = .seq c31 c32 := by kernel_rfl
noncomputable def r31 : Array Oper := match c31 with | .region _ x _ => x | _ => #[]
theorem e31 : c31 = .region 8 r31 false := by kernel_rfl
theorem e32 : c32 = .ret := by kernel_rfl
theorem e33 : c33 = .skip := by kernel_rfl
noncomputable def r34 : Array Oper := match c34 with | .region _ x _ => x | _ => #[]
theorem e34 : c34 = .region 9 r34 false := by kernel_rfl
theorem e35 : c35 = .seq c36 c50 := by kernel_rfl
theorem e36 : c36 = .block 2 c37 := by kernel_rfl
theorem e37 : c37 = .seq c38 c39 := by kernel_rfl
noncomputable def r38 : Array Oper := match c38 with | .region _ x _ => x | _ => #[]
theorem e38 : c38 = .region 10 r38 false := by kernel_rfl
theorem e39 : c39 = .cond (.tmp 31) c40 c43 := by kernel_rfl
theorem e40 : c40 = .seq c41 c42 := by kernel_rfl
noncomputable def r41 : Array Oper := match c41 with | .region _ x _ => x | _ => #[]
theorem e41 : c41 = .region 11 r41 false := by kernel_rfl
theorem e42 : c42 = .ret := by kernel_rfl
theorem e43 : c43 = .seq c44 c45 := by kernel_rfl
noncomputable def r44 : Array Oper := match c44 with | .region _ x _ => x | _ => #[]
theorem e44 : c44 = .region 12 r44 false := by kernel_rfl
theorem e45 : c45 = .cond (.tmp 37) c46 c49 := by kernel_rfl
theorem e46 : c46 = .seq c47 c48 := by kernel_rfl
noncomputable def r47 : Array Oper := match c47 with | .region _ x _ => x | _ => #[]
theorem e47 : c47 = .region 13 r47 false := by kernel_rfl
theorem e48 : c48 = .ret := by kernel_rfl
theorem e49 : c49 = .skip := by kernel_rfl
theorem e50 : c50 = .seq c51 c52 := by kernel_rfl
noncomputable def r51 : Array Oper := match c51 with | .region _ x _ => x | _ => #[]
theorem e51 : c51 = .region 14 r51 false := by kernel_rfl
theorem e52 : c52 = .ret := by kernel_rfl
theorem body : Try.f19.body = some c0 := by kernel_rfl
section
variable {base : Nat} {W0 : World} {β0 : Bt}
def L0 (k : Nat) : Nat → (List UInt8) → (List UInt8) → Int → Int → Option (Int)
  | 0, _, _, _, _ => none
  | n + 1, y0, y1, y12, y13 =>
    (if y13 < y12 then
    (Option.bind (sat y0 y13) fun p2 =>
    (Option.bind (fold_Byte.f (UInt8.toNat p2 : Int)) fun p3 =>
    (Option.bind (sat y1 y13) fun p4 =>
    (Option.bind (fold_Byte.f (UInt8.toNat p4 : Int)) fun p5 =>
    (if p3 < p5 then
    some (-1) else
    (if p3 > p5 then
    some 1 else
    (L0 k n) y0 y1 y12 (w64 (y13 + 1)))))))) else
    (if (List.length y0 : Int) < (List.length y1 : Int) then
    some (-1) else
    (if (List.length y0 : Int) > (List.length y1 : Int) then
    some 1 else
    some 0)))
theorem L0_snd {k : Nat}  : ∀ {n : Nat} ⦃y0 : (List UInt8)⦄ ⦃y1 : (List UInt8)⦄ ⦃y12 : Int⦄ ⦃y13 : Int⦄ ⦃S : HS⦄ ⦃p : Int⦄ ⦃g2 g3 g4 g5 g6 g7 g8 g9 g10 g11 g14 g15 g16 g17 g18 g19 g20 g21 g22 g23 g24 g25 g26 g27 g28 g29 g30 g31 g32 g33 g34 g35 g36 g37 g38 g39 g40 g41 g42 : HV⦄, L0 k n y0 y1 y12 y13 = some p → HRun Try.prog base W0 β0 19 none [.inLoop c7, .inBlock 0, .code c35] ⟨[(.str y0), (.str y1), g2, g3, g4, g5, g6, g7, g8, g9, g10, g11, (.int .i64 y12), (.int .i64 y13), g14, g15, g16, g17, g18, g19, g20, g21, g22, g23, g24, g25, g26, g27, g28, g29, g30, g31, g32, g33, g34, g35, g36, g37, g38, g39, g40, g41, g42], []⟩ S (fun v S1 => v = (.int .i64 p) ∧ S1 = S) := by
  intro n
  induction n with
  | zero => intro _ _ _ _ _ _ _ _ _ _ _ _ _ _ _ _ _ _ _ _ _ _ _ _ _ _ _ _ _ _ _ _ _ _ _ _ _ _ _ _ _ _ _ _ _ h; cases h
  | succ n ih =>
    intro y0 y1 y12 y13 S p g2 g3 g4 g5 g6 g7 g8 g9 g10 g11 g14 g15 g16 g17 g18 g19 g20 g21 g22 g23 g24 g25 g26 g27 g28 g29 g30 g31 g32 g33 g34 g35 g36 g37 g38 g39 g40 g41 g42 h
    simp only [L0] at h
    refine hr_inLoop ?_
    refine q_seq e7 ?_
    refine q_region e8 rfl ?_
    refine q_op (dst := some 14) rfl (fun _ ho => ok_ibin ho (.tmp rfl) (.tmp rfl) rfl) ?_
    refine hr_region_end ?_
    try dsimp only [HAct.put, List.set_cons_zero, List.set_cons_succ]
    refine q_seq e9 ?_
    rcases ifc h with ⟨hc1, h⟩ | ⟨hc1, h⟩
    · refine q_cond_t e10 (.tmp rfl) (decide_eq_true hc1) ?_
      refine q_skipc e11 ?_
      refine q_seq e13 ?_
      refine q_block e14 ?_
      refine q_seq e15 ?_
      refine q_region e16 rfl ?_
      refine q_op (dst := some 15) rfl (fun _ ho => ok_move ho (.tmp rfl)) ?_
      refine q_op (dst := some 5) rfl (fun _ ho => ok_assign ho (.tmp rfl)) ?_
      refine hr_region_end ?_
      try dsimp only [HAct.put, List.set_cons_zero, List.set_cons_succ]
      refine q_seq e17 ?_
      refine x_start (cls := [0, 0, 0, 0, 0, 0, 0, 0, 0, 0]) (rk := [0, 1, 2, 3, 4, 5, 6, 7, 8, 9]) e18 (by kernel_rfl) ?_
      refine x_go (f_op (dst := some 16) (ts := [0]) rfl (by intro _ _ h; cases h) (by kernel_rfl) (fun _ _ ho => ok_move ho (.tmp rfl))) rfl ?_
      refine x_go (f_op (dst := some 17) (ts := [5]) rfl (by intro _ _ h; cases h) (by kernel_rfl) (fun _ _ ho => ok_move ho (.tmp rfl))) rfl ?_
      obtain ⟨p2, hp2, h⟩ := bindo h
      refine x_go (f_op (dst := some 18) (ts := [16, 17]) rfl (by intro _ _ h; cases h) (by kernel_rfl) (fun _ _ ho => ok_index_s ho tu9 (.tmp rfl) (.tmp rfl) hp2)) rfl ?_
      obtain ⟨p3, hp3, h⟩ := bindo h
      refine x_go (f_call (dst := some 19) (ts := [18]) rfl (by kernel_rfl) (.func _) (.cons (.tmp rfl) Evs.nil) (fun _ => (HInv.static fold_Byte.at_ fold_Byte.body (fold_Byte.snd  hp3)))) rfl ?_
      try dsimp only [HAct.put, List.set_cons_zero, List.set_cons_succ]
      refine x_go (f_op (dst := some 20) (ts := [1]) rfl (by intro _ _ h; cases h) (by kernel_rfl) (fun _ _ ho => ok_move ho (.tmp rfl))) rfl ?_
      refine x_go (f_op (dst := some 21) (ts := [5]) rfl (by intro _ _ h; cases h) (by kernel_rfl) (fun _ _ ho => ok_move ho (.tmp rfl))) rfl ?_
      obtain ⟨p4, hp4, h⟩ := bindo h
      refine x_go (f_op (dst := some 22) (ts := [20, 21]) rfl (by intro _ _ h; cases h) (by kernel_rfl) (fun _ _ ho => ok_index_s ho tu9 (.tmp rfl) (.tmp rfl) hp4)) rfl ?_
      obtain ⟨p5, hp5, h⟩ := bindo h
      refine x_go (f_call (dst := some 23) (ts := [22]) rfl (by kernel_rfl) (.func _) (.cons (.tmp rfl) Evs.nil) (fun _ => (HInv.static fold_Byte.at_ fold_Byte.body (fold_Byte.snd  hp5)))) rfl ?_
      try dsimp only [HAct.put, List.set_cons_zero, List.set_cons_succ]
      refine x_go (f_op (dst := some 6) (ts := [19]) rfl (by intro _ _ h; cases h) (by kernel_rfl) (fun _ _ ho => ok_assign ho (.tmp rfl))) rfl ?_
      refine x_go (f_op (dst := some 7) (ts := [23]) rfl (by intro _ _ h; cases h) (by kernel_rfl) (fun _ _ ho => ok_assign ho (.tmp rfl))) rfl ?_
      refine x_rest rfl ?_
      refine hr_region_end ?_
      try dsimp only [HAct.put, List.set_cons_zero, List.set_cons_succ]
      refine q_seq e19 ?_
      refine q_seq e20 ?_
      refine q_region e21 rfl ?_
      refine q_op (dst := some 24) rfl (fun _ ho => ok_move ho (.tmp rfl)) ?_
      refine q_op (dst := some 25) rfl (fun _ ho => ok_move ho (.tmp rfl)) ?_
      refine q_op (dst := some 26) rfl (fun _ ho => ok_ibin ho (.tmp rfl) (.tmp rfl) rfl) ?_
      refine hr_region_end ?_
      try dsimp only [HAct.put, List.set_cons_zero, List.set_cons_succ]
      rcases ifc h with ⟨hc6, h⟩ | ⟨hc6, h⟩
      · refine q_cond_t e22 (.tmp rfl) (decide_eq_true hc6) ?_
        refine q_seq e23 ?_
        refine q_region e24 rfl ?_
        refine q_op (dst := some 4) rfl (fun _ ho => ok_assign ho (.int _ _)) ?_
        refine hr_region_end ?_
        try dsimp only [HAct.put, List.set_cons_zero, List.set_cons_succ]
        cases h
        exact q_ret e25 at_.at_ rfl (res1 rfl rfl) ⟨rfl, rfl⟩
      · refine q_cond_f e22 (.tmp rfl) (decide_eq_false hc6) ?_
        refine q_skipc e26 ?_
        refine q_seq e27 ?_
        refine q_region e28 rfl ?_
        refine q_op (dst := some 27) rfl (fun _ ho => ok_move ho (.tmp rfl)) ?_
        refine q_op (dst := some 28) rfl (fun _ ho => ok_move ho (.tmp rfl)) ?_
        refine q_op (dst := some 29) rfl (fun _ ho => ok_ibin ho (.tmp rfl) (.tmp rfl) rfl) ?_
        refine hr_region_end ?_
        try dsimp only [HAct.put, List.set_cons_zero, List.set_cons_succ]
        rcases ifc h with ⟨hc7, h⟩ | ⟨hc7, h⟩
        · refine q_cond_t e29 (.tmp rfl) (decide_eq_true hc7) ?_
          refine q_seq e30 ?_
          refine q_region e31 rfl ?_
          refine q_op (dst := some 4) rfl (fun _ ho => ok_assign ho (.int _ _)) ?_
          refine hr_region_end ?_
          try dsimp only [HAct.put, List.set_cons_zero, List.set_cons_succ]
          cases h
          exact q_ret e32 at_.at_ rfl (res1 rfl rfl) ⟨rfl, rfl⟩
        · refine q_cond_f e29 (.tmp rfl) (decide_eq_false hc7) ?_
          refine q_skipc e33 ?_
          refine hr_inBlock ?_
          refine q_region e34 rfl ?_
          refine q_op (dst := some 30) rfl (fun _ ho => ok_ibin ho (.tmp rfl) (.int _ _) rfl) ?_
          refine q_op (dst := some 13) rfl (fun _ ho => ok_move ho (.tmp rfl)) ?_
          refine hr_region_end ?_
          try dsimp only [HAct.put, List.set_cons_zero, List.set_cons_succ]
          try dsimp only [HAct.put, List.set_cons_zero, List.set_cons_succ]
          exact ih h
    · refine q_cond_f e10 (.tmp rfl) (decide_eq_false hc1) ?_
      refine q_exit e12 rfl ?_
      refine q_seq e35 ?_
      refine q_block e36 ?_
      refine q_seq e37 ?_
      refine q_region e38 rfl ?_
      refine q_op (dst := some 32) rfl (fun _ ho => ok_move ho (.tmp rfl)) ?_
      refine q_op (dst := some 33) rfl (fun _ ho => ok_len_str ho rfl tu9 (.tmp rfl)) ?_
      refine q_op (dst := some 34) rfl (fun _ ho => ok_move ho (.tmp rfl)) ?_
      refine q_op (dst := some 35) rfl (fun _ ho => ok_len_str ho rfl tu9 (.tmp rfl)) ?_
      try dsimp only [HAct.put, List.set_cons_zero, List.set_cons_succ]
      refine q_op (dst := some 36) rfl (fun _ ho => ok_ibin ho (.tmp rfl) (.tmp rfl) rfl) ?_
      refine q_op (dst := some 31) rfl (fun _ ho => ok_assign ho (.tmp rfl)) ?_
      refine hr_region_end ?_
      try dsimp only [HAct.put, List.set_cons_zero, List.set_cons_succ]
      rcases ifc h with ⟨hc8, h⟩ | ⟨hc8, h⟩
      · refine q_cond_t e39 (.tmp rfl) (decide_eq_true hc8) ?_
        refine q_seq e40 ?_
        refine q_region e41 rfl ?_
        refine q_op (dst := some 4) rfl (fun _ ho => ok_assign ho (.int _ _)) ?_
        refine hr_region_end ?_
        try dsimp only [HAct.put, List.set_cons_zero, List.set_cons_succ]
        cases h
        exact q_ret e42 at_.at_ rfl (res1 rfl rfl) ⟨rfl, rfl⟩
      · refine q_cond_f e39 (.tmp rfl) (decide_eq_false hc8) ?_
        refine q_seq e43 ?_
        refine q_region e44 rfl ?_
        refine q_op (dst := some 38) rfl (fun _ ho => ok_move ho (.tmp rfl)) ?_
        refine q_op (dst := some 39) rfl (fun _ ho => ok_len_str ho rfl tu9 (.tmp rfl)) ?_
        refine q_op (dst := some 40) rfl (fun _ ho => ok_move ho (.tmp rfl)) ?_
        refine q_op (dst := some 41) rfl (fun _ ho => ok_len_str ho rfl tu9 (.tmp rfl)) ?_
        try dsimp only [HAct.put, List.set_cons_zero, List.set_cons_succ]
        refine q_op (dst := some 42) rfl (fun _ ho => ok_ibin ho (.tmp rfl) (.tmp rfl) rfl) ?_
        refine q_op (dst := some 37) rfl (fun _ ho => ok_assign ho (.tmp rfl)) ?_
        refine hr_region_end ?_
        try dsimp only [HAct.put, List.set_cons_zero, List.set_cons_succ]
        rcases ifc h with ⟨hc9, h⟩ | ⟨hc9, h⟩
        · refine q_cond_t e45 (.tmp rfl) (decide_eq_true hc9) ?_
          refine q_seq e46 ?_
          refine q_region e47 rfl ?_
          refine q_op (dst := some 4) rfl (fun _ ho => ok_assign ho (.int _ _)) ?_
          refine hr_region_end ?_
          try dsimp only [HAct.put, List.set_cons_zero, List.set_cons_succ]
          cases h
          exact q_ret e48 at_.at_ rfl (res1 rfl rfl) ⟨rfl, rfl⟩
        · refine q_cond_f e45 (.tmp rfl) (decide_eq_false hc9) ?_
          refine q_skipc e49 ?_
          refine hr_inBlock ?_
          refine q_seq e50 ?_
          refine q_region e51 rfl ?_
          refine q_op (dst := some 4) rfl (fun _ ho => ok_assign ho (.int _ _)) ?_
          refine hr_region_end ?_
          try dsimp only [HAct.put, List.set_cons_zero, List.set_cons_succ]
          cases h
          exact q_ret e52 at_.at_ rfl (res1 rfl rfl) ⟨rfl, rfl⟩
def f (k : Nat) (x0 : (List UInt8)) (x1 : (List UInt8)) : Option (Int) :=
  L0 k k x0 x1 (mn (List.length x0 : Int) (List.length x1 : Int)) 0
theorem snd {k : Nat} {x0 : (List UInt8)} {x1 : (List UInt8)} {S : HS}  {p : Int} (h : f k x0 x1 = some p) : HCall Try.prog base W0 β0 19 [(.str x0), (.str x1)] S (fun v S1 => v = (.int .i64 p) ∧ S1 = S) := by
  unfold f at h
  refine HCall.of_run at_.at_ body ?_
  show HRun Try.prog base W0 β0 19 none [.code c0] ⟨[(.str x0), (.str x1), .tup [], .tup [], .tup [], .tup [], .tup [], .tup [], .tup [], .tup [], .tup [], .tup [], .tup [], .tup [], .tup [], .tup [], .tup [], .tup [], .tup [], .tup [], .tup [], .tup [], .tup [], .tup [], .tup [], .tup [], .tup [], .tup [], .tup [], .tup [], .tup [], .tup [], .tup [], .tup [], .tup [], .tup [], .tup [], .tup [], .tup [], .tup [], .tup [], .tup [], .tup []], []⟩ S _
  refine q_seq e0 ?_
  refine q_region e1 rfl ?_
  refine q_op (dst := some 4) rfl (fun _ ho => ok_assign ho (.int _ _)) ?_
  refine hr_region_end ?_
  try dsimp only [HAct.put, List.set_cons_zero, List.set_cons_succ]
  refine q_seq e2 ?_
  refine q_seq e3 ?_
  refine q_region e4 rfl ?_
  refine q_op (dst := some 8) rfl (fun _ ho => ok_move ho (.tmp rfl)) ?_
  refine q_op (dst := some 9) rfl (fun _ ho => ok_len_str ho rfl tu9 (.tmp rfl)) ?_
  refine q_op (dst := some 10) rfl (fun _ ho => ok_move ho (.tmp rfl)) ?_
  refine q_op (dst := some 11) rfl (fun _ ho => ok_len_str ho rfl tu9 (.tmp rfl)) ?_
  try dsimp only [HAct.put, List.set_cons_zero, List.set_cons_succ]
  refine q_op (dst := some 12) rfl (fun _ ho => ok_min ho (.tmp rfl) (.tmp rfl)) ?_
  refine q_op (dst := some 13) rfl (fun _ ho => ok_move ho (.int _ _)) ?_
  refine hr_region_end ?_
  try dsimp only [HAct.put, List.set_cons_zero, List.set_cons_succ]
  refine q_block e5 ?_
  refine q_loop e6 ?_
  try dsimp only [HAct.put, List.set_cons_zero, List.set_cons_succ]
  exact L0_snd  h
end
end fold_Compare
namespace fold_Same
abbrev id : Nat := 17
theorem at_ : FnAt Try.prog 17 Try.f17 := ⟨Try.func17, by kernel_rfl⟩
noncomputable def c0 : Code := (Try.f17.body).getD .skip
noncomputable def c1 : Code := match c0 with | .seq x _ => x | _ => .skip
noncomputable def c2 : Code := match c0 with | .seq _ x => x | _ => .skip
noncomputable def c3 : Code := match c2 with | .seq x _ => x | _ => .skip
noncomputable def c4 : Code := match c2 with | .seq _ x => x | _ => .skip
theorem e0 : c0 = .seq c1 c2 := by kernel_rfl
noncomputable def r1 : Array Oper := match c1 with | .region _ x _ => x | _ => #[]
theorem e1 : c1 = .region 0 r1 false := by kernel_rfl
theorem e2 : c2 = .seq c3 c4 := by kernel_rfl
noncomputable def r3 : Array Oper := match c3 with | .region _ x _ => x | _ => #[]
theorem e3 : c3 = .region 1 r3 false := by kernel_rfl
theorem e4 : c4 = .ret := by kernel_rfl
theorem body : Try.f17.body = some c0 := by kernel_rfl
section
variable {base : Nat} {W0 : World} {β0 : Bt}
def J0 (k : Nat) (y15 : Bool) : Option (Bool) :=
  some y15
theorem J0_snd {k : Nat}  {y15 : Bool} {S : HS} {p : Bool} {g0 g1 g2 g3 g4 g5 g6 g7 g8 g9 g10 g11 g12 g13 g14 : HV} (h : J0 k y15 = some p) : HRun Try.prog base W0 β0 17 none [.inRegion r3 [11], .code c4] ⟨[g0, g1, g2, g3, g4, g5, g6, g7, g8, g9, g10, g11, g12, g13, g14, (.bool y15)], []⟩ S (fun v S1 => v = (.bool p) ∧ S1 = S) := by
  unfold J0 at h
  refine q_op (dst := some 4) rfl (fun _ ho => ok_assign ho (.tmp rfl)) ?_
  refine hr_region_end ?_
  try dsimp only [HAct.put, List.set_cons_zero, List.set_cons_succ]
  cases h
  exact q_ret e4 at_.at_ rfl (res1 rfl rfl) ⟨rfl, rfl⟩
def f (k : Nat) (x0 : (List UInt8)) (x1 : (List UInt8)) : Option (Bool) :=
  (if (List.length x0 : Int) = (List.length x1 : Int) then
  (Option.bind (fold_Compare.f k x0 x1) fun p2 =>
  J0 k (decide (p2 = 0))) else
  J0 k false)
theorem snd {k : Nat} {x0 : (List UInt8)} {x1 : (List UInt8)} {S : HS}  {p : Bool} (h : f k x0 x1 = some p) : HCall Try.prog base W0 β0 17 [(.str x0), (.str x1)] S (fun v S1 => v = (.bool p) ∧ S1 = S) := by
  unfold f at h
  refine HCall.of_run at_.at_ body ?_
  show HRun Try.prog base W0 β0 17 none [.code c0] ⟨[(.str x0), (.str x1), .tup [], .tup [], .tup [], .tup [], .tup [], .tup [], .tup [], .tup [], .tup [], .tup [], .tup [], .tup [], .tup [], .tup []], []⟩ S _
  refine q_seq e0 ?_
  refine q_region e1 rfl ?_
  refine q_op (dst := some 4) rfl (fun _ ho => ok_assign ho (.bool _)) ?_
  refine hr_region_end ?_
  try dsimp only [HAct.put, List.set_cons_zero, List.set_cons_succ]
  refine q_seq e2 ?_
  refine q_region e3 rfl ?_
  refine q_op (dst := some 5) rfl (fun _ ho => ok_move ho (.tmp rfl)) ?_
  refine q_op (dst := some 6) rfl (fun _ ho => ok_len_str ho rfl tu9 (.tmp rfl)) ?_
  refine q_op (dst := some 7) rfl (fun _ ho => ok_move ho (.tmp rfl)) ?_
  refine q_op (dst := some 8) rfl (fun _ ho => ok_len_str ho rfl tu9 (.tmp rfl)) ?_
  try dsimp only [HAct.put, List.set_cons_zero, List.set_cons_succ]
  refine q_op (dst := some 9) rfl (fun _ ho => ok_ibin ho (.tmp rfl) (.tmp rfl) rfl) ?_
  refine q_op (dst := some 10) rfl (fun _ ho => ok_move ho (.tmp rfl)) ?_
  rcases ifc h with ⟨hc1, h⟩ | ⟨hc1, h⟩
  · refine q_op_g (t := 10) (dst := some 11) rfl rfl rfl (decide_eq_true hc1) (fun _ ho => ok_move ho (.tmp rfl)) ?_
    refine q_op_g (t := 10) (dst := some 12) rfl rfl rfl (decide_eq_true hc1) (fun _ ho => ok_move ho (.tmp rfl)) ?_
    try dsimp only [HAct.put, List.set_cons_zero, List.set_cons_succ]
    obtain ⟨p2, hp2, h⟩ := bindo h
    refine q_call_g (t := 10) (dst := some 13) rfl rfl rfl (decide_eq_true hc1) (.func _) (.cons (.tmp rfl) (.cons (.tmp rfl) Evs.nil)) (HInv.static fold_Compare.at_ fold_Compare.body (fold_Compare.snd  hp2)) ?_
    rintro _ _ ⟨rfl, rfl⟩
    refine q_op_g (t := 10) (dst := some 14) rfl rfl rfl (decide_eq_true hc1) (fun _ ho => ok_ibin ho (.tmp rfl) (.int _ _) rfl) ?_
    refine q_op (dst := some 15) rfl (fun _ ho => ok_pick_tt ho (.tmp rfl) (decide_eq_true hc1) (.tmp rfl)) ?_
    try dsimp only [HAct.put, List.set_cons_zero, List.set_cons_succ]
    exact J0_snd  h
  · refine q_skip (dst := some 11) (t := 10) rfl rfl rfl (decide_eq_false hc1) ?_
    refine q_skip (dst := some 12) (t := 10) rfl rfl rfl (decide_eq_false hc1) ?_
    try dsimp only [HAct.put, List.set_cons_zero, List.set_cons_succ]
    refine q_skip (dst := some 13) (t := 10) rfl rfl rfl (decide_eq_false hc1) ?_
    refine q_skip (dst := some 14) (t := 10) rfl rfl rfl (decide_eq_false hc1) ?_
    refine q_op (dst := some 15) rfl (fun _ ho => ok_pick_ff ho (.tmp rfl) (decide_eq_false hc1) (.bool _)) ?_
    try dsimp only [HAct.put, List.set_cons_zero, List.set_cons_succ]
    exact J0_snd  h
end
end fold_Same
namespace was_Past_int_Find_1
abbrev id : Nat := 16
theorem at_ : FnAt Try.prog 16 Try.f16 := ⟨Try.func16, by kernel_rfl⟩
noncomputable def c0 : Code := (Try.f16.body).getD .skip
noncomputable def c1 : Code := match c0 with | .seq x _ => x | _ => .skip
noncomputable def c2 : Code := match c0 with | .seq _ x => x | _ => .skip
noncomputable def c3 : Code := match c2 with | .seq x _ => x | _ => .skip
noncomputable def c4 : Code := match c2 with | .seq _ x => x | _ => .skip
noncomputable def c5 : Code := match c4 with | .block _ x => x | _ => .skip
noncomputable def c6 : Code := match c5 with | .rangeFunc _ _ x _ => x | _ => .skip
noncomputable def c7 : Code := match c6 with | .seq x _ => x | _ => .skip
noncomputable def c8 : Code := match c6 with | .seq _ x => x | _ => .skip
noncomputable def c9 : Code := match c5 with | .rangeFunc _ _ _ x => x | _ => .skip
noncomputable def c10 : Code := match c9 with | .block _ x => x | _ => .skip
noncomputable def c11 : Code := match c10 with | .seq x _ => x | _ => .skip
noncomputable def c12 : Code := match c10 with | .seq _ x => x | _ => .skip
noncomputable def c13 : Code := match c12 with | .cond _ x _ => x | _ => .skip
noncomputable def c14 : Code := match c12 with | .cond _ _ x => x | _ => .skip
theorem e0 : c0 = .seq c1 c2 := by kernel_rfl
noncomputable def r1 : Array Oper := match c1 with | .region _ x _ => x | _ => #[]
theorem e1 : c1 = .region 0 r1 false := by kernel_rfl
theorem e2 : c2 = .seq c3 c4 := by kernel_rfl
noncomputable def r3 : Array Oper := match c3 with | .region _ x _ => x | _ => #[]
theorem e3 : c3 = .region 1 r3 false := by kernel_rfl
theorem e4 : c4 = .block 0 c5 := by kernel_rfl
theorem e5 : c5 = .rangeFunc (.tmp 6) #[7, 8] c6 c9 := by kernel_rfl
theorem e6 : c6 = .seq c7 c8 := by kernel_rfl
noncomputable def r7 : Array Oper := match c7 with | .region _ x _ => x | _ => #[]
theorem e7 : c7 = .region 2 r7 false := by kernel_rfl
noncomputable def r8 : Array Oper := match c8 with | .region _ x _ => x | _ => #[]
theorem e8 : c8 = .region 3 r8 false := by kernel_rfl
theorem e9 : c9 = .block 1 c10 := by kernel_rfl
theorem e10 : c10 = .seq c11 c12 := by kernel_rfl
noncomputable def r11 : Array Oper := match c11 with | .region _ x _ => x | _ => #[]
theorem e11 : c11 = .region 4 r11 false := by kernel_rfl
theorem e12 : c12 = .cond (.tmp 18) c13 c14 := by kernel_rfl
theorem e13 : c13 = .ret := by kernel_rfl
theorem e14 : c14 = .skip := by kernel_rfl
theorem body : Try.f16.body = some c0 := by kernel_rfl
section
variable {base : Nat} {W0 : World} {β0 : Bt}
def J1 (D : Dp) (H : Hd) (k : Nat) (l : Nat) (y18 : Bool) (S : HS) : Option (HV × HS) :=
  (if y18 = true then
  (HS.endr S l (some .ret)) else
  (HS.endr S l none))
theorem J1_snd {D : Dp} {H : Hd} {k : Nat} {l : Nat} (hD : DSound Try.prog base W0 D) (hH : HSound Try.prog base W0 β0 H)  {y18 : Bool} {S : HS} {p : HV × HS} {g0 g1 g2 g3 g4 g5 g6 g7 g8 g9 g10 g11 g12 g13 g14 g15 g16 g17 : HV} (h : J1 D H k l y18 S = some p) : HRun Try.prog base W0 β0 16 (some l) [.code c12, .inBlock 1] ⟨[g0, g1, g2, g3, g4, g5, g6, g7, g8, g9, g10, g11, g12, g13, g14, g15, g16, g17, (.bool y18)], []⟩ S (fun v S1 => v = p.1 ∧ S1 = p.2) := by
  unfold J1 at h
  rcases ifc h with ⟨hc14, h⟩ | ⟨hc14, h⟩
  · refine q_cond_t e12 (.tmp rfl) hc14 ?_
    exact q_round_ret e13 h ⟨rfl, rfl⟩
  · refine q_cond_f e12 (.tmp rfl) (bfalse hc14) ?_
    refine q_skipc e14 ?_
    refine hr_inBlock ?_
    exact q_round_end h ⟨rfl, rfl⟩
def J0 (D : Dp) (H : Hd) (k : Nat) (l : Nat) (y2 : (Option HA)) (y3 : (Option HA)) (y7 : (List UInt8)) (y8 : Int) (S : HS) : Option (HV × HS) :=
  (Option.bind (HS.begin_ S l) fun p5 =>
  (Option.bind (y2) fun p6 =>
  (Option.bind (HS.ldS p5 p6) fun p7 =>
  (Option.bind (fold_Same.f k y7 p7) fun p8 =>
  (if p8 = true then
  (Option.bind (y3) fun p10 =>
  (Option.bind (HS.ldF p5 p10) fun p11 =>
  (Option.bind (D H p11 [(.str y7), (.int .i64 y8)] p5) fun p12 =>
  (Option.bind (dB p12.1) fun p13 =>
  J1 D H k l (!p13) p12.2)))) else
  J1 D H k l false p5)))))
theorem J0_snd {D : Dp} {H : Hd} {k : Nat} {l : Nat} (hD : DSound Try.prog base W0 D) (hH : HSound Try.prog base W0 β0 H)  {y2 : (Option HA)} {y3 : (Option HA)} {y7 : (List UInt8)} {y8 : Int} {S : HS} {p : HV × HS} {g0 g1 g4 g5 g6 g9 g10 g11 g12 g13 g14 g15 g16 g17 g18 : HV} (h : J0 D H k l y2 y3 y7 y8 S = some p) : HRun Try.prog base W0 β0 16 (some l) [.code c6, .beginRound, .code c9] ⟨[g0, g1, (.ptr y2), (.ptr y3), g4, g5, g6, (.str y7), (.int .i64 y8), g9, g10, g11, g12, g13, g14, g15, g16, g17, g18], []⟩ S (fun v S1 => v = p.1 ∧ S1 = p.2) := by
  unfold J0 at h
  refine q_seq e6 ?_
  refine q_region e7 rfl ?_
  refine q_op (dst := some 4) rfl (fun _ ho => ok_assign ho (.tmp rfl)) ?_
  refine hr_region_end ?_
  try dsimp only [HAct.put, List.set_cons_zero, List.set_cons_succ]
  refine q_region e8 rfl ?_
  refine q_op (dst := some 5) rfl (fun _ ho => ok_assign ho (.tmp rfl)) ?_
  refine hr_region_end ?_
  try dsimp only [HAct.put, List.set_cons_zero, List.set_cons_succ]
  obtain ⟨p5, hp5, h⟩ := bindo h
  refine q_begin hp5 ?_
  refine q_block e9 ?_
  refine q_seq e10 ?_
  refine q_region e11 rfl ?_
  refine q_op (dst := some 9) rfl (fun _ ho => ok_move ho (.tmp rfl)) ?_
  obtain ⟨p6, hp6, h⟩ := bindo h
  obtain ⟨p7, hp7, h⟩ := bindo h
  refine q_op (dst := some 10) rfl (fun _ ho => ok_load_s ho sc9 (.tmp rfl) hp6 (ldS_out hp7)) ?_
  obtain ⟨p8, hp8, h⟩ := bindo h
  refine q_call (dst := some 11) rfl (.func _) (.cons (.tmp rfl) (.cons (.tmp rfl) Evs.nil)) (HInv.static fold_Same.at_ fold_Same.body (fold_Same.snd  hp8)) ?_
  rintro _ _ ⟨rfl, rfl⟩
  refine q_op (dst := some 12) rfl (fun _ ho => ok_move ho (.tmp rfl)) ?_
  try dsimp only [HAct.put, List.set_cons_zero, List.set_cons_succ]
  rcases ifc h with ⟨hc9, h⟩ | ⟨hc9, h⟩
  · obtain ⟨p10, hp10, h⟩ := bindo h
    obtain ⟨p11, hp11, h⟩ := bindo h
    refine q_op_g (t := 12) (dst := some 13) rfl rfl rfl hc9 (fun _ ho => ok_load_s ho sc48 (.tmp rfl) hp10 (ldF_out hp11)) ?_
    refine q_op_g (t := 12) (dst := some 14) rfl rfl rfl hc9 (fun _ ho => ok_move ho (.tmp rfl)) ?_
    refine q_op_g (t := 12) (dst := some 15) rfl rfl rfl hc9 (fun _ ho => ok_move ho (.tmp rfl)) ?_
    obtain ⟨p12, hp12, h⟩ := bindo h
    obtain ⟨p13, hp13, h⟩ := bindo h
    refine q_call_g (t := 12) (dst := some 16) rfl rfl rfl hc9 (.tmp rfl) (.cons (.tmp rfl) (.cons (.tmp rfl) Evs.nil)) (hD _ _ hH _ _ _ _ _ hp12) ?_
    rintro _ _ ⟨rfl, rfl⟩
    rw [dB_out hp13]
    try dsimp only [HAct.put, List.set_cons_zero, List.set_cons_succ]
    refine q_op_g (t := 12) (dst := some 17) rfl rfl rfl hc9 (fun _ ho => ok_not ho (.tmp rfl)) ?_
    refine q_op (dst := some 18) rfl (fun _ ho => ok_pick_tt ho (.tmp rfl) hc9 (.tmp rfl)) ?_
    refine hr_region_end ?_
    try dsimp only [HAct.put, List.set_cons_zero, List.set_cons_succ]
    try dsimp only [HAct.put, List.set_cons_zero, List.set_cons_succ]
    exact J1_snd hD hH h
  · refine q_skip (dst := some 13) (t := 12) rfl rfl rfl (bfalse hc9) ?_
    refine q_skip (dst := some 14) (t := 12) rfl rfl rfl (bfalse hc9) ?_
    refine q_skip (dst := some 15) (t := 12) rfl rfl rfl (bfalse hc9) ?_
    refine q_skip (dst := some 16) (t := 12) rfl rfl rfl (bfalse hc9) ?_
    try dsimp only [HAct.put, List.set_cons_zero, List.set_cons_succ]
    refine q_skip (dst := some 17) (t := 12) rfl rfl rfl (bfalse hc9) ?_
    refine q_op (dst := some 18) rfl (fun _ ho => ok_pick_ff ho (.tmp rfl) (bfalse hc9) (.bool _)) ?_
    refine hr_region_end ?_
    try dsimp only [HAct.put, List.set_cons_zero, List.set_cons_succ]
    try dsimp only [HAct.put, List.set_cons_zero, List.set_cons_succ]
    exact J1_snd hD hH h
def f (D : Dp) (H : Hd) (k : Nat) (x0 : HV) (x1 : (Option HA)) (x2 : (Option HA)) (S : HS) : Option ((Unit) × HS) :=
  (Option.bind (dF x0) fun p1 =>
  (letv (HS.new S (.cells 1 [[p1]] true)) fun p2 =>
  (Option.bind (x1) fun p3 =>
  (Option.bind (HS.ldF p2 p3) fun p4 =>
  (Option.bind (D (Hd.set H (HS.next p2 + 1) fun vs T =>
  (Option.bind (HS.lp T (HS.next p2 + 1)) fun u18 =>
  (Option.bind (args2 vs) fun ar15 =>
  (Option.bind (dS ar15.1) fun p16 =>
  (Option.bind (dI .i64 ar15.2) fun p17 =>
  (J0 D H k (HS.next p2 + 1) x2 (some (HA.cell0 S.next)) p16 p17 T)))))) p4 [.fn (.yield (HS.next p2 + 1)) [] []] (HS.new (HS.new p2 .defer) (.loop .ready none))) fun p19 =>
  (Option.bind (HS.finish p19.2 (HS.next p2 + 1)) fun p20 =>
  (Option.bind (pcode p20.1) fun n21 =>
  (if n21 = 0 then
  (Option.bind (HS.leave p20.2 (HS.next p2 :: [])) fun p23 =>
  some ((), p23)) else
  (if n21 = 1 then
  (Option.bind (HS.leave p20.2 (HS.next p2 :: [])) fun p25 =>
  some ((), p25)) else
  none)))))))))
theorem snd {D : Dp} {H : Hd} {k : Nat} {x0 : HV} {x1 : (Option HA)} {x2 : (Option HA)} {S : HS} (hD : DSound Try.prog base W0 D) (hH : HSound Try.prog base W0 β0 H)  {p : (Unit) × HS} (h : f D H k x0 x1 x2 S = some p) : HCall Try.prog base W0 β0 16 [x0, (.ptr x1), (.ptr x2)] S (fun v S1 => v = (.tup []) ∧ S1 = p.2) := by
  unfold f at h
  refine HCall.of_run at_.at_ body ?_
  show HRun Try.prog base W0 β0 16 none [.code c0] ⟨[x0, (.ptr x1), (.ptr x2), .tup [], .tup [], .tup [], .tup [], .tup [], .tup [], .tup [], .tup [], .tup [], .tup [], .tup [], .tup [], .tup [], .tup [], .tup [], .tup []], []⟩ S _
  refine q_seq e0 ?_
  refine q_region e1 rfl ?_
  obtain ⟨p1, hp1, h⟩ := bindo h
  obtain ⟨p2, hp2, h⟩ := leto h
  refine q_op (dst := some 3) rfl (fun _ ho => ok_box_fn ho (.tmp rfl) hp1 hp2) ?_
  refine hr_region_end ?_
  try dsimp only [HAct.put, List.set_cons_zero, List.set_cons_succ]
  refine q_seq e2 ?_
  refine q_region e3 rfl ?_
  obtain ⟨p3, hp3, h⟩ := bindo h
  obtain ⟨p4, hp4, h⟩ := bindo h
  refine q_op (dst := some 6) rfl (fun _ ho => ok_load_s ho sc37 (.tmp rfl) hp3 (ldF_out hp4)) ?_
  refine hr_region_end ?_
  try dsimp only [HAct.put, List.set_cons_zero, List.set_cons_succ]
  refine q_block e4 ?_
  obtain ⟨p19, hp19, h⟩ := bindo h
  obtain ⟨p20, hp20, h⟩ := bindo h
  obtain ⟨n21, hn21, h⟩ := bindo h
  refine q_range (D := D) (H := H) e5 (.tmp rfl) hD hH hp19 hp20 ?_ ?_
  · intro β1 hle hLA vs T u T' hr
    obtain ⟨u18, hu18, hr⟩ := bindo hr
    obtain ⟨ar15, har15, hr⟩ := bindo hr
    obtain ⟨p16, hp16, hr⟩ := bindo hr
    obtain ⟨p17, hp17, hr⟩ := bindo hr
    rw [args2_out har15]
    refine q_yield2 hLA hu18 rfl rfl ?_
    rw [dS_out hp16, dI_out hp17]
    simp only [HAct.params, List.set_cons_zero, List.set_cons_succ]
    exact J0_snd hD (hH.up hle) hr
  · rcases ifc h with ⟨hc22, h⟩ | ⟨hc22, h⟩
    · rw [pcode0 hn21 hc22]
      simp only [jumped_none, jumped_some]
      refine hr_inBlock ?_
      obtain ⟨p23, hp23, h⟩ := bindo h
      cases h
      exact q_end at_.at_ hp23 (res0 rfl) ⟨rfl, rfl⟩
    · rcases ifc h with ⟨hc24, h⟩ | ⟨hc24, h⟩
      · rw [pcode1 hn21 hc24]
        simp only [jumped_none, jumped_some]
        obtain ⟨p25, hp25, h⟩ := bindo h
        cases h
        exact q_ret rfl at_.at_ hp25 (res0 rfl) ⟨rfl, rfl⟩
      · cases h
end
end was_Past_int_Find_1
namespace was_Past_int_Find
abbrev id : Nat := 12
theorem at_ : FnAt Try.prog 12 Try.f12 := ⟨Try.func12, by kernel_rfl⟩
noncomputable def c0 : Code := (Try.f12.body).getD .skip
noncomputable def c1 : Code := match c0 with | .seq x _ => x | _ => .skip
noncomputable def c2 : Code := match c0 with | .seq _ x => x | _ => .skip
noncomputable def c3 : Code := match c2 with | .seq x _ => x | _ => .skip
noncomputable def c4 : Code := match c2 with | .seq _ x => x | _ => .skip
noncomputable def c5 : Code := match c4 with | .seq x _ => x | _ => .skip
noncomputable def c6 : Code := match c4 with | .seq _ x => x | _ => .skip
theorem e0 : c0 = .seq c1 c2 := by kernel_rfl
noncomputable def r1 : Array Oper := match c1 with | .region _ x _ => x | _ => #[]
theorem e1 : c1 = .region 0 r1 false := by kernel_rfl
theorem e2 : c2 = .seq c3 c4 := by kernel_rfl
noncomputable def r3 : Array Oper := match c3 with | .region _ x _ => x | _ => #[]
theorem e3 : c3 = .region 1 r3 false := by kernel_rfl
theorem e4 : c4 = .seq c5 c6 := by kernel_rfl
noncomputable def r5 : Array Oper := match c5 with | .region _ x _ => x | _ => #[]
theorem e5 : c5 = .region 2 r5 false := by kernel_rfl
theorem e6 : c6 = .ret := by kernel_rfl
theorem body : Try.f12.body = some c0 := by kernel_rfl
section
variable {base : Nat} {W0 : World} {β0 : Bt}
def f (k : Nat) (x0 : (Option HA)) (x1 : (List UInt8)) (S : HS) : Option ((HV) × HS) :=
  (letv (HS.new S (.cells 1 [[(.str x1)]] true)) fun p1 =>
  (Option.bind (was_Past_int_All.f k x0 p1) fun p2 =>
  (letv (HS.new p2.2 (.cells 1 [[.nilFn]] true)) fun p3 =>
  (Option.bind (dF p2.1) fun p4 =>
  (Option.bind (HS.sets p3 (HA.cell0 p2.2.next) [p4]) fun p5 =>
  some ((HV.fn (.func 16) [] [(.ptr (some (HA.cell0 p2.2.next))), (.ptr (some (HA.cell0 S.next)))]), p5))))))
theorem snd {k : Nat} {x0 : (Option HA)} {x1 : (List UInt8)} {S : HS}  {p : (HV) × HS} (h : f k x0 x1 S = some p) : HCall Try.prog base W0 β0 12 [(.ptr x0), (.str x1)] S (fun v S1 => v = p.1 ∧ S1 = p.2) := by
  unfold f at h
  refine HCall.of_run at_.at_ body ?_
  show HRun Try.prog base W0 β0 12 none [.code c0] ⟨[(.ptr x0), (.str x1), .tup [], .tup [], .tup [], .tup [], .tup [], .tup [], .tup []], []⟩ S _
  refine q_seq e0 ?_
  refine q_region e1 rfl ?_
  obtain ⟨p1, hp1, h⟩ := leto h
  refine q_op (dst := some 3) rfl (fun _ ho => ok_box_e ho (.tmp rfl) (Nat.zero_lt_succ _) rfl hp1) ?_
  refine q_op (dst := some 4) rfl (fun _ ho => ok_assign ho (.const fun _ => .nilFn)) ?_
  refine hr_region_end ?_
  try dsimp only [HAct.put, List.set_cons_zero, List.set_cons_succ]
  refine q_seq e2 ?_
  refine q_region e3 rfl ?_
  refine q_op (dst := some 6) rfl (fun _ ho => ok_move ho (.tmp rfl)) ?_
  obtain ⟨p2, hp2, h⟩ := bindo h
  refine q_call (dst := some 7) rfl (.func _) (.cons (.tmp rfl) Evs.nil) (HInv.static was_Past_int_All.at_ was_Past_int_All.body (was_Past_int_All.snd  hp2)) ?_
  rintro _ _ ⟨rfl, rfl⟩
  obtain ⟨p3, hp3, h⟩ := leto h
  refine q_op (dst := some 5) rfl (fun _ ho => ok_alloc_e ho zi37 zr37 (by decide) rfl hp3) ?_
  obtain ⟨p4, hp4, h⟩ := bindo h
  obtain ⟨p5, hp5, h⟩ := bindo h
  refine q_op (dst := none) rfl (fun _ ho => ok_store_fn ho sz37 (.tmp rfl) rfl (.tmp rfl) hp4 hp5) ?_
  refine hr_region_end ?_
  try dsimp only [HAct.put, List.set_cons_zero, List.set_cons_succ]
  refine q_seq e4 ?_
  refine q_region e5 rfl ?_
  refine q_op (dst := some 8) rfl (fun _ ho => ok_makeFunc ho Evs.nil (.cons (.tmp rfl) (.cons (.tmp rfl) Evs.nil))) ?_
  refine q_op (dst := some 4) rfl (fun _ ho => ok_assign ho (.tmp rfl)) ?_
  refine hr_region_end ?_
  try dsimp only [HAct.put, List.set_cons_zero, List.set_cons_succ]
  cases h
  exact q_ret e6 at_.at_ rfl (res1 rfl rfl) ⟨rfl, rfl⟩
end
end was_Past_int_Find
namespace rollcalllaw13_same
abbrev id : Nat := 9
theorem at_ : FnAt Try.prog 9 Try.f9 := ⟨Try.func9, by kernel_rfl⟩
noncomputable def c0 : Code := (Try.f9.body).getD .skip
noncomputable def c1 : Code := match c0 with | .seq x _ => x | _ => .skip
noncomputable def c2 : Code := match c0 with | .seq _ x => x | _ => .skip
noncomputable def c3 : Code := match c2 with | .seq x _ => x | _ => .skip
noncomputable def c4 : Code := match c2 with | .seq _ x => x | _ => .skip
noncomputable def c5 : Code := match c4 with | .seq x _ => x | _ => .skip
noncomputable def c6 : Code := match c5 with | .seq x _ => x | _ => .skip
noncomputable def c7 : Code := match c5 with | .seq _ x => x | _ => .skip
noncomputable def c8 : Code := match c7 with | .cond _ x _ => x | _ => .skip
noncomputable def c9 : Code := match c7 with | .cond _ _ x => x | _ => .skip
noncomputable def c10 : Code := match c4 with | .seq _ x => x | _ => .skip
noncomputable def c11 : Code := match c10 with | .seq x _ => x | _ => .skip
noncomputable def c12 : Code := match c11 with | .seq x _ => x | _ => .skip
noncomputable def c13 : Code := match c11 with | .seq _ x => x | _ => .skip
noncomputable def c14 : Code := match c13 with | .cond _ x _ => x | _ => .skip
noncomputable def c15 : Code := match c14 with | .seq x _ => x | _ => .skip
noncomputable def c16 : Code := match c14 with | .seq _ x => x | _ => .skip
noncomputable def c17 : Code := match c13 with | .cond _ _ x => x | _ => .skip
noncomputable def c18 : Code := match c10 with | .seq _ x => x | _ => .skip
noncomputable def c19 : Code := match c18 with | .seq x _ => x | _ => .skip
noncomputable def c20 : Code := match c18 with | .seq _ x => x | _ => .skip
noncomputable def c21 : Code := match c20 with | .seq x _ => x | _ => .skip
noncomputable def c22 : Code := match c20 with | .seq _ x => x | _ => .skip
noncomputable def c23 : Code := match c22 with | .seq x _ => x | _ => .skip
noncomputable def c24 : Code := match c23 with | .seq x _ => x | _ => .skip
noncomputable def c25 : Code := match c23 with | .seq _ x => x | _ => .skip
noncomputable def c26 : Code := match c25 with | .block _ x => x | _ => .skip
noncomputable def c27 : Code := match c26 with | .rangeFunc _ _ x _ => x | _ => .skip
noncomputable def c28 : Code := match c27 with | .seq x _ => x | _ => .skip
noncomputable def c29 : Code := match c27 with | .seq _ x => x | _ => .skip
noncomputable def c30 : Code := match c26 with | .rangeFunc _ _ _ x => x | _ => .skip
noncomputable def c31 : Code := match c30 with | .block _ x => x | _ => .skip
noncomputable def c32 : Code := match c31 with | .seq x _ => x | _ => .skip
noncomputable def c33 : Code := match c32 with | .seq x _ => x | _ => .skip
noncomputable def c34 : Code := match c32 with | .seq _ x => x | _ => .skip
noncomputable def c35 : Code := match c34 with | .cond _ x _ => x | _ => .skip
noncomputable def c36 : Code := match c35 with | .seq x _ => x | _ => .skip
noncomputable def c37 : Code := match c35 with | .seq _ x => x | _ => .skip
noncomputable def c38 : Code := match c34 with | .cond _ _ x => x | _ => .skip
noncomputable def c39 : Code := match c31 with | .seq _ x => x | _ => .skip
noncomputable def c40 : Code := match c39 with | .seq x _ => x | _ => .skip
noncomputable def c41 : Code := match c39 with | .seq _ x => x | _ => .skip
noncomputable def c42 : Code := match c22 with | .seq _ x => x | _ => .skip
noncomputable def c43 : Code := match c42 with | .seq x _ => x | _ => .skip
noncomputable def c44 : Code := match c42 with | .seq _ x => x | _ => .skip
theorem e0 : c0 = .seq c1 c2 := by kernel_rfl
noncomputable def r1 : Array Oper := match c1 with | .region _ x _ => x | _ => #[]
theorem e1 : c1 = .region 0 r1 false := by kernel_rfl
theorem e2 : c2 = .seq c3 c4 := by kernel_rfl
noncomputable def r3 : Array Oper := match c3 with | .region _ x _ => x | _ => #[]
theorem e3 : c3 = .region 1 r3 false := by kernel_rfl
theorem e4 : c4 = .seq c5 c10 := by kernel_rfl
theorem e5 : c5 = .seq c6 c7 := by kernel_rfl
noncomputable def r6 : Array Oper := match c6 with | .region _ x _ => x | _ => #[]
theorem e6 : c6 = .region 2 r6 false := by kernel_rfl
theorem e7 : c7 = .cond (.tmp 17) c8 c9 := by kernel_rfl
noncomputable def r8 : Array Oper := match c8 with | .region _ x _ => x | _ => #[]
theorem e8 : c8 = .region 3 r8 false := by kernel_rfl
theorem e9 : c9 = .skip := by kernel_rfl
theorem e10 : c10 = .seq c11 c18 := by kernel_rfl
theorem e11 : c11 = .seq c12 c13 := by kernel_rfl
noncomputable def r12 : Array Oper := match c12 with | .region _ x _ => x | _ => #[]
theorem e12 : c12 = .region 4 r12 false := by kernel_rfl
theorem e13 : c13 = .cond (.tmp 21) c14 c17 := by kernel_rfl
theorem e14 : c14 = .seq c15 c16 := by kernel_rfl
noncomputable def r15 : Array Oper := match c15 with | .region _ x _ => x | _ => #[]
theorem e15 : c15 = .region 5 r15 false := by kernel_rfl
theorem e16 : c16 = .ret := by kernel_rfl
theorem e17 : c17 = .skip := by kernel_rfl
theorem e18 : c18 = .seq c19 c20 := by kernel_rfl
noncomputable def r19 : Array Oper := match c19 with | .region _ x _ => x | _ => #[]
theorem e19 : c19 = .region 6 r19 false := by kernel_rfl
theorem e20 : c20 = .seq c21 c22 := by kernel_rfl
noncomputable def r21 : Array Oper := match c21 with | .region _ x _ => x | _ => #[]
theorem e21 : c21 = .region 7 r21 false := by kernel_rfl
theorem e22 : c22 = .seq c23 c42 := by kernel_rfl
theorem e23 : c23 = .seq c24 c25 := by kernel_rfl
noncomputable def r24 : Array Oper := match c24 with | .region _ x _ => x | _ => #[]
theorem e24 : c24 = .region 8 r24 false := by kernel_rfl
theorem e25 : c25 = .block 0 c26 := by kernel_rfl
theorem e26 : c26 = .rangeFunc (.tmp 22) #[23, 24] c27 c30 := by kernel_rfl
theorem e27 : c27 = .seq c28 c29 := by kernel_rfl
noncomputable def r28 : Array Oper := match c28 with | .region _ x _ => x | _ => #[]
theorem e28 : c28 = .region 9 r28 false := by kernel_rfl
noncomputable def r29 : Array Oper := match c29 with | .region _ x _ => x | _ => #[]
theorem e29 : c29 = .region 10 r29 false := by kernel_rfl
theorem e30 : c30 = .block 1 c31 := by kernel_rfl
theorem e31 : c31 = .seq c32 c39 := by kernel_rfl
theorem e32 : c32 = .seq c33 c34 := by kernel_rfl
noncomputable def r33 : Array Oper := match c33 with | .region _ x _ => x | _ => #[]
theorem e33 : c33 = .region 11 r33 false := by kernel_rfl
theorem e34 : c34 = .cond (.tmp 28) c35 c38 := by kernel_rfl
theorem e35 : c35 = .seq c36 c37 := by kernel_rfl
noncomputable def r36 : Array Oper := match c36 with | .region _ x _ => x | _ => #[]
theorem e36 : c36 = .region 12 r36 false := by kernel_rfl
theorem e37 : c37 = .ret := by kernel_rfl
theorem e38 : c38 = .skip := by kernel_rfl
theorem e39 : c39 = .seq c40 c41 := by kernel_rfl
noncomputable def r40 : Array Oper := match c40 with | .region _ x _ => x | _ => #[]
theorem e40 : c40 = .region 13 r40 false := by kernel_rfl
noncomputable def r41 : Array Oper := match c41 with | .region _ x _ => x | _ => #[]
theorem e41 : c41 = .region 14 r41 false := by kernel_rfl
theorem e42 : c42 = .seq c43 c44 := by kernel_rfl
noncomputable def r43 : Array Oper := match c43 with | .region _ x _ => x | _ => #[]
theorem e43 : c43 = .region 15 r43 false := by kernel_rfl
theorem e44 : c44 = .ret := by kernel_rfl
theorem body : Try.f9.body = some c0 := by kernel_rfl
section
variable {base : Nat} {W0 : World} {β0 : Bt}
def J3 (D : Dp) (H : Hd) (k : Nat) (l : Nat) (y10 : (Option HA)) (y11 : (Option HA)) (y47 : Bool) (S : HS) : Option (HV × HS) :=
  (Option.bind (y11) fun p41 =>
  (Option.bind (HS.sets S p41 [(.bool y47)]) fun p42 =>
  (Option.bind (y10) fun p43 =>
  (Option.bind (HS.ldI p42 .i64 p43) fun p44 =>
  (Option.bind (y10) fun p45 =>
  (Option.bind (HS.sets p42 p45 [(.int .i64 (w64 (p44 + 1)))]) fun p46 =>
  (HS.endr p46 l none)))))))
theorem J3_snd {D : Dp} {H : Hd} {k : Nat} {l : Nat} (hD : DSound Try.prog base W0 D) (hH : HSound Try.prog base W0 β0 H)  {y10 : (Option HA)} {y11 : (Option HA)} {y47 : Bool} {S : HS} {p : HV × HS} {g0 g1 g2 g3 g4 g5 g6 g7 g8 g9 g12 g13 g14 g15 g16 g17 g18 g19 g20 g21 g22 g23 g24 g25 g26 g27 g28 g29 g30 g31 g32 g33 g34 g35 g36 g37 g38 g39 g40 g41 g42 g43 g44 g45 g46 g48 g49 g50 g51 g52 g53 g54 g55 g56 : HV} (h : J3 D H k l y10 y11 y47 S = some p) : HRun Try.prog base W0 β0 9 (some l) [.inRegion r40 [19], .code c41, .inBlock 1] ⟨[g0, g1, g2, g3, g4, g5, g6, g7, g8, g9, (.ptr y10), (.ptr y11), g12, g13, g14, g15, g16, g17, g18, g19, g20, g21, g22, g23, g24, g25, g26, g27, g28, g29, g30, g31, g32, g33, g34, g35, g36, g37, g38, g39, g40, g41, g42, g43, g44, g45, g46, (.bool y47), g48, g49, g50, g51, g52, g53, g54, g55, g56], []⟩ S (fun v S1 => v = p.1 ∧ S1 = p.2) := by
  unfold J3 at h
  obtain ⟨p41, hp41, h⟩ := bindo h
  obtain ⟨p42, hp42, h⟩ := bindo h
  refine q_op (dst := none) rfl (fun _ ho => ok_store_s (v := (.bool y47)) ho sz4 (.tmp rfl) hp41 (.tmp rfl) rfl hp42) ?_
  refine hr_region_end ?_
  try dsimp only [HAct.put, List.set_cons_zero, List.set_cons_succ]
  refine q_region e41 rfl ?_
  obtain ⟨p43, hp43, h⟩ := bindo h
  obtain ⟨p44, hp44, h⟩ := bindo h
  refine q_op (dst := some 48) rfl (fun _ ho => ok_load_s ho sc3 (.tmp rfl) hp43 (ldI_out hp44)) ?_
  refine q_op (dst := some 49) rfl (fun _ ho => ok_ibin ho (.tmp rfl) (.int _ _) rfl) ?_
  obtain ⟨p45, hp45, h⟩ := bindo h
  obtain ⟨p46, hp46, h⟩ := bindo h
  refine q_op (dst := none) rfl (fun _ ho => ok_store_s (v := (.int .i64 (w64 (p44 + 1)))) ho sz3 (.tmp rfl) hp45 (.tmp rfl) rfl hp46) ?_
  refine hr_region_end ?_
  try dsimp only [HAct.put, List.set_cons_zero, List.set_cons_succ]
  refine hr_inBlock ?_
  exact q_round_end h ⟨rfl, rfl⟩
def J2 (D : Dp) (H : Hd) (k : Nat) (l : Nat) (y5 : (Option HA)) (y10 : (Option HA)) (y11 : (Option HA)) (y13 : Int) (y38 : Bool) (S : HS) : Option (HV × HS) :=
  (if y38 = true then
  (Option.bind (y5) fun p35 =>
  (Option.bind (HS.ldSl S p35) fun p36 =>
  (Option.bind (y10) fun p37 =>
  (Option.bind (HS.ldI S .i64 p37) fun p38 =>
  (Option.bind (HS.idx S p36 p38 2) fun p39 =>
  (Option.bind (HS.ldI S .i64 (HA.fld p39 1)) fun p40 =>
  J3 D H k l y10 y11 (decide (y13 = p40)) S)))))) else
  J3 D H k l y10 y11 false S)
theorem J2_snd {D : Dp} {H : Hd} {k : Nat} {l : Nat} (hD : DSound Try.prog base W0 D) (hH : HSound Try.prog base W0 β0 H)  {y5 : (Option HA)} {y10 : (Option HA)} {y11 : (Option HA)} {y13 : Int} {y38 : Bool} {S : HS} {p : HV × HS} {g0 g1 g2 g3 g4 g6 g7 g8 g9 g12 g14 g15 g16 g17 g18 g19 g20 g21 g22 g23 g24 g25 g26 g27 g28 g29 g30 g31 g32 g33 g34 g35 g36 g37 g39 g40 g41 g42 g43 g44 g45 g46 g47 g48 g49 g50 g51 g52 g53 g54 g55 g56 : HV} (h : J2 D H k l y5 y10 y11 y13 y38 S = some p) : HRun Try.prog base W0 β0 9 (some l) [.inRegion r40 [10, 11, 12, 13, 14, 15, 16, 17, 18, 19], .code c41, .inBlock 1] ⟨[g0, g1, g2, g3, g4, (.ptr y5), g6, g7, g8, g9, (.ptr y10), (.ptr y11), g12, (.int .i64 y13), g14, g15, g16, g17, g18, g19, g20, g21, g22, g23, g24, g25, g26, g27, g28, g29, g30, g31, g32, g33, g34, g35, g36, g37, (.bool y38), g39, g40, g41, g42, g43, g44, g45, g46, g47, g48, g49, g50, g51, g52, g53, g54, g55, g56], []⟩ S (fun v S1 => v = p.1 ∧ S1 = p.2) := by
  unfold J2 at h
  refine q_op (dst := some 39) rfl (fun _ ho => ok_move ho (.tmp rfl)) ?_
  rcases ifc h with ⟨hc34, h⟩ | ⟨hc34, h⟩
  · refine q_op_g (t := 39) (dst := some 40) rfl rfl rfl hc34 (fun _ ho => ok_move ho (.tmp rfl)) ?_
    try dsimp only [HAct.put, List.set_cons_zero, List.set_cons_succ]
    obtain ⟨p35, hp35, h⟩ := bindo h
    obtain ⟨p36, hp36, h⟩ := bindo h
    refine q_op_g (t := 39) (dst := some 41) rfl rfl rfl hc34 (fun _ ho => ok_load_s ho sc22 (.tmp rfl) hp35 (ldSl_out hp36)) ?_
    obtain ⟨p37, hp37, h⟩ := bindo h
    obtain ⟨p38, hp38, h⟩ := bindo h
    refine q_op_g (t := 39) (dst := some 42) rfl rfl rfl hc34 (fun _ ho => ok_load_s ho sc3 (.tmp rfl) hp37 (ldI_out hp38)) ?_
    obtain ⟨p39, hp39, h⟩ := bindo h
    refine q_op_g (t := 39) (dst := some 43) rfl rfl rfl hc34 (fun _ ho => ok_indexAddr (s := p36) ho tu22 sz29 (.tmp rfl) (.tmp rfl) hp39) ?_
    refine q_op_g (t := 39) (dst := some 44) rfl rfl rfl hc34 (fun _ ho => ok_fieldAddr_s ho fi29_1 (by decide) (.tmp rfl) rfl) ?_
    try dsimp only [HAct.put, List.set_cons_zero, List.set_cons_succ]
    obtain ⟨p40, hp40, h⟩ := bindo h
    refine q_op_g (t := 39) (dst := some 45) rfl rfl rfl hc34 (fun _ ho => ok_load_s ho sc3 (.tmp rfl) rfl (ldI_out hp40)) ?_
    refine q_op_g (t := 39) (dst := some 46) rfl rfl rfl hc34 (fun _ ho => ok_ibin ho (.tmp rfl) (.tmp rfl) rfl) ?_
    refine q_op (dst := some 47) rfl (fun _ ho => ok_pick_tt ho (.tmp rfl) hc34 (.tmp rfl)) ?_
    try dsimp only [HAct.put, List.set_cons_zero, List.set_cons_succ]
    exact J3_snd hD hH h
  · refine q_skip (dst := some 40) (t := 39) rfl rfl rfl (bfalse hc34) ?_
    try dsimp only [HAct.put, List.set_cons_zero, List.set_cons_succ]
    refine q_skip (dst := some 41) (t := 39) rfl rfl rfl (bfalse hc34) ?_
    refine q_skip (dst := some 42) (t := 39) rfl rfl rfl (bfalse hc34) ?_
    refine q_skip (dst := some 43) (t := 39) rfl rfl rfl (bfalse hc34) ?_
    refine q_skip (dst := some 44) (t := 39) rfl rfl rfl (bfalse hc34) ?_
    try dsimp only [HAct.put, List.set_cons_zero, List.set_cons_succ]
    refine q_skip (dst := some 45) (t := 39) rfl rfl rfl (bfalse hc34) ?_
    refine q_skip (dst := some 46) (t := 39) rfl rfl rfl (bfalse hc34) ?_
    refine q_op (dst := some 47) rfl (fun _ ho => ok_pick_ff ho (.tmp rfl) (bfalse hc34) (.bool _)) ?_
    try dsimp only [HAct.put, List.set_cons_zero, List.set_cons_succ]
    exact J3_snd hD hH h
def J1 (D : Dp) (H : Hd) (k : Nat) (l : Nat) (y5 : (Option HA)) (y8 : (Option HA)) (y10 : (Option HA)) (y11 : (Option HA)) (y23 : (List UInt8)) (y24 : Int) (S : HS) : Option (HV × HS) :=
  (Option.bind (HS.begin_ S l) fun p17 =>
  (Option.bind (y10) fun p18 =>
  (Option.bind (HS.ldI p17 .i64 p18) fun p19 =>
  (Option.bind (y5) fun p20 =>
  (Option.bind (HS.ldSl p17 p20) fun p21 =>
  (if p19 ≥ (Sl.len p21 : Int) then
  (Option.bind (y8) fun p23 =>
  (Option.bind (HS.sets p17 p23 [(.bool false)]) fun p24 =>
  (HS.endr p24 l (some .ret)))) else
  (Option.bind (y11) fun p25 =>
  (Option.bind (HS.ldB p17 p25) fun p26 =>
  (if p26 = true then
  (Option.bind (y5) fun p28 =>
  (Option.bind (HS.ldSl p17 p28) fun p29 =>
  (Option.bind (y10) fun p30 =>
  (Option.bind (HS.ldI p17 .i64 p30) fun p31 =>
  (Option.bind (HS.idx p17 p29 p31 2) fun p32 =>
  (Option.bind (HS.ldS p17 (HA.fld p32 0)) fun p33 =>
  J2 D H k l y5 y10 y11 y24 (decide (y23 = p33)) p17)))))) else
  J2 D H k l y5 y10 y11 y24 false p17)))))))))
theorem J1_snd {D : Dp} {H : Hd} {k : Nat} {l : Nat} (hD : DSound Try.prog base W0 D) (hH : HSound Try.prog base W0 β0 H)  {y5 : (Option HA)} {y8 : (Option HA)} {y10 : (Option HA)} {y11 : (Option HA)} {y23 : (List UInt8)} {y24 : Int} {S : HS} {p : HV × HS} {g0 g1 g2 g3 g4 g6 g7 g9 g12 g13 g14 g15 g16 g17 g18 g19 g20 g21 g22 g25 g26 g27 g28 g29 g30 g31 g32 g33 g34 g35 g36 g37 g38 g39 g40 g41 g42 g43 g44 g45 g46 g47 g48 g49 g50 g51 g52 g53 g54 g55 g56 : HV} (h : J1 D H k l y5 y8 y10 y11 y23 y24 S = some p) : HRun Try.prog base W0 β0 9 (some l) [.code c27, .beginRound, .code c30] ⟨[g0, g1, g2, g3, g4, (.ptr y5), g6, g7, (.ptr y8), g9, (.ptr y10), (.ptr y11), g12, g13, g14, g15, g16, g17, g18, g19, g20, g21, g22, (.str y23), (.int .i64 y24), g25, g26, g27, g28, g29, g30, g31, g32, g33, g34, g35, g36, g37, g38, g39, g40, g41, g42, g43, g44, g45, g46, g47, g48, g49, g50, g51, g52, g53, g54, g55, g56], []⟩ S (fun v S1 => v = p.1 ∧ S1 = p.2) := by
  unfold J1 at h
  refine q_seq e27 ?_
  refine q_region e28 rfl ?_
  refine q_op (dst := some 12) rfl (fun _ ho => ok_assign ho (.tmp rfl)) ?_
  refine hr_region_end ?_
  try dsimp only [HAct.put, List.set_cons_zero, List.set_cons_succ]
  refine q_region e29 rfl ?_
  refine q_op (dst := some 13) rfl (fun _ ho => ok_assign ho (.tmp rfl)) ?_
  refine hr_region_end ?_
  try dsimp only [HAct.put, List.set_cons_zero, List.set_cons_succ]
  obtain ⟨p17, hp17, h⟩ := bindo h
  refine q_begin hp17 ?_
  refine q_block e30 ?_
  refine q_seq e31 ?_
  refine q_seq e32 ?_
  refine q_region e33 rfl ?_
  obtain ⟨p18, hp18, h⟩ := bindo h
  obtain ⟨p19, hp19, h⟩ := bindo h
  refine q_op (dst := some 25) rfl (fun _ ho => ok_load_s ho sc3 (.tmp rfl) hp18 (ldI_out hp19)) ?_
  obtain ⟨p20, hp20, h⟩ := bindo h
  obtain ⟨p21, hp21, h⟩ := bindo h
  refine q_op (dst := some 26) rfl (fun _ ho => ok_load_s ho sc22 (.tmp rfl) hp20 (ldSl_out hp21)) ?_
  refine q_op (dst := some 27) rfl (fun _ ho => ok_len_sl (q := Sl.a p21) (n := Sl.len p21) (z := Sl.cap p21) ho rfl tu22 (.tmp rfl)) ?_
  refine q_op (dst := some 28) rfl (fun _ ho => ok_ibin ho (.tmp rfl) (.tmp rfl) rfl) ?_
  refine hr_region_end ?_
  try dsimp only [HAct.put, List.set_cons_zero, List.set_cons_succ]
  rcases ifc h with ⟨hc22, h⟩ | ⟨hc22, h⟩
  · refine q_cond_t e34 (.tmp rfl) (decide_eq_true hc22) ?_
    refine q_seq e35 ?_
    refine q_region e36 rfl ?_
    obtain ⟨p23, hp23, h⟩ := bindo h
    obtain ⟨p24, hp24, h⟩ := bindo h
    refine q_op (dst := none) rfl (fun _ ho => ok_store_s (v := (.bool false)) ho sz4 (.tmp rfl) hp23 (.bool _) rfl hp24) ?_
    refine hr_region_end ?_
    try dsimp only [HAct.put, List.set_cons_zero, List.set_cons_succ]
    exact q_round_ret e37 h ⟨rfl, rfl⟩
  · refine q_cond_f e34 (.tmp rfl) (decide_eq_false hc22) ?_
    refine q_skipc e38 ?_
    refine q_seq e39 ?_
    refine q_region e40 rfl ?_
    obtain ⟨p25, hp25, h⟩ := bindo h
    obtain ⟨p26, hp26, h⟩ := bindo h
    refine q_op (dst := some 29) rfl (fun _ ho => ok_load_s ho sc4 (.tmp rfl) hp25 (ldB_out hp26)) ?_
    refine q_op (dst := some 30) rfl (fun _ ho => ok_move ho (.tmp rfl)) ?_
    rcases ifc h with ⟨hc27, h⟩ | ⟨hc27, h⟩
    · refine q_op_g (t := 30) (dst := some 31) rfl rfl rfl hc27 (fun _ ho => ok_move ho (.tmp rfl)) ?_
      obtain ⟨p28, hp28, h⟩ := bindo h
      obtain ⟨p29, hp29, h⟩ := bindo h
      refine q_op_g (t := 30) (dst := some 32) rfl rfl rfl hc27 (fun _ ho => ok_load_s ho sc22 (.tmp rfl) hp28 (ldSl_out hp29)) ?_
      try dsimp only [HAct.put, List.set_cons_zero, List.set_cons_succ]
      obtain ⟨p30, hp30, h⟩ := bindo h
      obtain ⟨p31, hp31, h⟩ := bindo h
      refine q_op_g (t := 30) (dst := some 33) rfl rfl rfl hc27 (fun _ ho => ok_load_s ho sc3 (.tmp rfl) hp30 (ldI_out hp31)) ?_
      obtain ⟨p32, hp32, h⟩ := bindo h
      refine q_op_g (t := 30) (dst := some 34) rfl rfl rfl hc27 (fun _ ho => ok_indexAddr (s := p29) ho tu22 sz29 (.tmp rfl) (.tmp rfl) hp32) ?_
      refine q_op_g (t := 30) (dst := some 35) rfl rfl rfl hc27 (fun _ ho => ok_fieldAddr_s ho fi29_0 (by decide) (.tmp rfl) rfl) ?_
      obtain ⟨p33, hp33, h⟩ := bindo h
      refine q_op_g (t := 30) (dst := some 36) rfl rfl rfl hc27 (fun _ ho => ok_load_s ho sc9 (.tmp rfl) rfl (ldS_out hp33)) ?_
      try dsimp only [HAct.put, List.set_cons_zero, List.set_cons_succ]
      refine q_op_g (t := 30) (dst := some 37) rfl rfl rfl hc27 (fun _ ho => ok_sbin ho (.tmp rfl) (.tmp rfl) rfl) ?_
      refine q_op (dst := some 38) rfl (fun _ ho => ok_pick_tt ho (.tmp rfl) hc27 (.tmp rfl)) ?_
      try dsimp only [HAct.put, List.set_cons_zero, List.set_cons_succ]
      exact J2_snd hD hH h
    · refine q_skip (dst := some 31) (t := 30) rfl rfl rfl (bfalse hc27) ?_
      refine q_skip (dst := some 32) (t := 30) rfl rfl rfl (bfalse hc27) ?_
      try dsimp only [HAct.put, List.set_cons_zero, List.set_cons_succ]
      refine q_skip (dst := some 33) (t := 30) rfl rfl rfl (bfalse hc27) ?_
      refine q_skip (dst := some 34) (t := 30) rfl rfl rfl (bfalse hc27) ?_
      refine q_skip (dst := some 35) (t := 30) rfl rfl rfl (bfalse hc27) ?_
      refine q_skip (dst := some 36) (t := 30) rfl rfl rfl (bfalse hc27) ?_
      try dsimp only [HAct.put, List.set_cons_zero, List.set_cons_succ]
      refine q_skip (dst := some 37) (t := 30) rfl rfl rfl (bfalse hc27) ?_
      refine q_op (dst := some 38) rfl (fun _ ho => ok_pick_ff ho (.tmp rfl) (bfalse hc27) (.bool _)) ?_
      try dsimp only [HAct.put, List.set_cons_zero, List.set_cons_succ]
      exact J2_snd hD hH h
def J4 (D : Dp) (H : Hd) (k : Nat) (y8 : (Option HA)) (y56 : Bool) (ds : List Nat) (S : HS) : Option ((Bool) × HS) :=
  (Option.bind (y8) fun p60 =>
  (Option.bind (HS.sets S p60 [(.bool y56)]) fun p61 =>
  (Option.bind (HS.leave p61 ds) fun p62 =>
  (Option.bind (y8) fun p63 =>
  (Option.bind (HS.ldB p62 p63) fun p64 =>
  some (p64, p62))))))
theorem J4_snd {D : Dp} {H : Hd} {k : Nat} (hD : DSound Try.prog base W0 D) (hH : HSound Try.prog base W0 β0 H)  {y8 : (Option HA)} {y56 : Bool} {ds : List Nat} {S : HS} {p : (Bool) × HS} {g0 g1 g2 g3 g4 g5 g6 g7 g9 g10 g11 g12 g13 g14 g15 g16 g17 g18 g19 g20 g21 g22 g23 g24 g25 g26 g27 g28 g29 g30 g31 g32 g33 g34 g35 g36 g37 g38 g39 g40 g41 g42 g43 g44 g45 g46 g47 g48 g49 g50 g51 g52 g53 g54 g55 : HV} (h : J4 D H k y8 y56 ds S = some p) : HRun Try.prog base W0 β0 9 none [.inRegion r43 [7], .code c44] ⟨[g0, g1, g2, g3, g4, g5, g6, g7, (.ptr y8), g9, g10, g11, g12, g13, g14, g15, g16, g17, g18, g19, g20, g21, g22, g23, g24, g25, g26, g27, g28, g29, g30, g31, g32, g33, g34, g35, g36, g37, g38, g39, g40, g41, g42, g43, g44, g45, g46, g47, g48, g49, g50, g51, g52, g53, g54, g55, (.bool y56)], ds⟩ S (fun v S1 => v = (.bool p.1) ∧ S1 = p.2) := by
  unfold J4 at h
  obtain ⟨p60, hp60, h⟩ := bindo h
  obtain ⟨p61, hp61, h⟩ := bindo h
  refine q_op (dst := none) rfl (fun _ ho => ok_store_s (v := (.bool y56)) ho sz4 (.tmp rfl) hp60 (.tmp rfl) rfl hp61) ?_
  refine hr_region_end ?_
  try dsimp only [HAct.put, List.set_cons_zero, List.set_cons_succ]
  obtain ⟨p62, hp62, h⟩ := bindo h
  obtain ⟨p63, hp63, h⟩ := bindo h
  obtain ⟨p64, hp64, h⟩ := bindo h
  cases h
  exact q_ret e44 at_.at_ hp62 (resL1 rfl (.cell rfl hp63 sc4 (ldB_out hp64))) ⟨rfl, rfl⟩
def J0 (D : Dp) (H : Hd) (k : Nat) (y5 : (Option HA)) (y8 : (Option HA)) (y9 : HV) (ds : List Nat) (S : HS) : Option ((Bool) × HS) :=
  (Option.bind (HV.isNilFn y9) fun p6 =>
  (if (p6) = true then
  (Option.bind (y8) fun p8 =>
  (Option.bind (HS.sets S p8 [(.bool false)]) fun p9 =>
  (Option.bind (HS.leave p9 ds) fun p10 =>
  (Option.bind (y8) fun p11 =>
  (Option.bind (HS.ldB p10 p11) fun p12 =>
  some (p12, p10)))))) else
  (letv (HS.new S (.cells 1 [[(.int .i64 0)]] true)) fun p13 =>
  (Option.bind (HS.sets p13 (HA.cell0 S.next) [(.int .i64 0)]) fun p14 =>
  (letv (HS.new p14 (.cells 1 [[(.bool false)]] true)) fun p15 =>
  (Option.bind (HS.sets p15 (HA.cell0 p14.next) [(.bool true)]) fun p16 =>
  (Option.bind (D (Hd.set H (HS.next p16 + 1) fun vs T =>
  (Option.bind (HS.lp T (HS.next p16 + 1)) fun u50 =>
  (Option.bind (args2 vs) fun ar47 =>
  (Option.bind (dS ar47.1) fun p48 =>
  (Option.bind (dI .i64 ar47.2) fun p49 =>
  (J1 D H k (HS.next p16 + 1) y5 y8 (some (HA.cell0 S.next)) (some (HA.cell0 p14.next)) p48 p49 T)))))) y9 [.fn (.yield (HS.next p16 + 1)) [] []] (HS.new (HS.new p16 .defer) (.loop .ready none))) fun p51 =>
  (Option.bind (HS.finish p51.2 (HS.next p16 + 1)) fun p52 =>
  (Option.bind (pcode p52.1) fun n53 =>
  (if n53 = 0 then
  (Option.bind (HS.ldB p52.2 (HA.cell0 p14.next)) fun p55 =>
  (if p55 = true then
  (Option.bind (HS.ldI p52.2 .i64 (HA.cell0 S.next)) fun p57 =>
  (Option.bind (y5) fun p58 =>
  (Option.bind (HS.ldSl p52.2 p58) fun p59 =>
  J4 D H k y8 (decide (p57 = (Sl.len p59 : Int))) (HS.next p16 :: ds) p52.2))) else
  J4 D H k y8 false (HS.next p16 :: ds) p52.2)) else
  (if n53 = 1 then
  (Option.bind (HS.leave p52.2 (HS.next p16 :: ds)) fun p66 =>
  (Option.bind (y8) fun p67 =>
  (Option.bind (HS.ldB p66 p67) fun p68 =>
  some (p68, p66)))) else
  none)))))))))))
theorem J0_snd {D : Dp} {H : Hd} {k : Nat} (hD : DSound Try.prog base W0 D) (hH : HSound Try.prog base W0 β0 H)  {y5 : (Option HA)} {y8 : (Option HA)} {y9 : HV} {ds : List Nat} {S : HS} {p : (Bool) × HS} {g0 g1 g2 g3 g4 g6 g7 g10 g11 g12 g13 g14 g15 g16 g17 g18 g19 g20 g21 g22 g23 g24 g25 g26 g27 g28 g29 g30 g31 g32 g33 g34 g35 g36 g37 g38 g39 g40 g41 g42 g43 g44 g45 g46 g47 g48 g49 g50 g51 g52 g53 g54 g55 g56 : HV} (h : J0 D H k y5 y8 y9 ds S = some p) : HRun Try.prog base W0 β0 9 none [.code c10] ⟨[g0, g1, g2, g3, g4, (.ptr y5), g6, g7, (.ptr y8), y9, g10, g11, g12, g13, g14, g15, g16, g17, g18, g19, g20, g21, g22, g23, g24, g25, g26, g27, g28, g29, g30, g31, g32, g33, g34, g35, g36, g37, g38, g39, g40, g41, g42, g43, g44, g45, g46, g47, g48, g49, g50, g51, g52, g53, g54, g55, g56], ds⟩ S (fun v S1 => v = (.bool p.1) ∧ S1 = p.2) := by
  unfold J0 at h
  refine q_seq e10 ?_
  refine q_seq e11 ?_
  refine q_region e12 rfl ?_
  refine q_op (dst := some 20) rfl (fun _ ho => ok_move ho (.tmp rfl)) ?_
  obtain ⟨p6, hp6, h⟩ := bindo h
  refine q_op (dst := some 21) rfl (fun _ ho => ok_nil_fn ho tu37 (.tmp rfl) hp6 (.inl ⟨rfl, rfl⟩)) ?_
  refine hr_region_end ?_
  try dsimp only [HAct.put, List.set_cons_zero, List.set_cons_succ]
  rcases ifc h with ⟨hc7, h⟩ | ⟨hc7, h⟩
  · refine q_cond_t e13 (.tmp rfl) hc7 ?_
    refine q_seq e14 ?_
    refine q_region e15 rfl ?_
    obtain ⟨p8, hp8, h⟩ := bindo h
    obtain ⟨p9, hp9, h⟩ := bindo h
    refine q_op (dst := none) rfl (fun _ ho => ok_store_s (v := (.bool false)) ho sz4 (.tmp rfl) hp8 (.bool _) rfl hp9) ?_
    refine hr_region_end ?_
    try dsimp only [HAct.put, List.set_cons_zero, List.set_cons_succ]
    obtain ⟨p10, hp10, h⟩ := bindo h
    obtain ⟨p11, hp11, h⟩ := bindo h
    obtain ⟨p12, hp12, h⟩ := bindo h
    cases h
    exact q_ret e16 at_.at_ hp10 (resL1 rfl (.cell rfl hp11 sc4 (ldB_out hp12))) ⟨rfl, rfl⟩
  · refine q_cond_f e13 (.tmp rfl) (bfalse hc7) ?_
    refine q_skipc e17 ?_
    refine q_seq e18 ?_
    refine q_region e19 rfl ?_
    obtain ⟨p13, hp13, h⟩ := leto h
    refine q_op (dst := some 10) rfl (fun _ ho => ok_alloc_e ho zi3 zr3 (by decide) rfl hp13) ?_
    obtain ⟨p14, hp14, h⟩ := bindo h
    refine q_op (dst := none) rfl (fun _ ho => ok_store_s (v := (.int .i64 0)) ho sz3 (.tmp rfl) rfl (.int _ _) rfl hp14) ?_
    refine hr_region_end ?_
    try dsimp only [HAct.put, List.set_cons_zero, List.set_cons_succ]
    refine q_seq e20 ?_
    refine q_region e21 rfl ?_
    obtain ⟨p15, hp15, h⟩ := leto h
    refine q_op (dst := some 11) rfl (fun _ ho => ok_alloc_e ho zi4 zr4 (by decide) rfl hp15) ?_
    obtain ⟨p16, hp16, h⟩ := bindo h
    refine q_op (dst := none) rfl (fun _ ho => ok_store_s (v := (.bool true)) ho sz4 (.tmp rfl) rfl (.bool _) rfl hp16) ?_
    refine hr_region_end ?_
    try dsimp only [HAct.put, List.set_cons_zero, List.set_cons_succ]
    refine q_seq e22 ?_
    refine q_seq e23 ?_
    refine q_region e24 rfl ?_
    refine q_op (dst := some 22) rfl (fun _ ho => ok_move ho (.tmp rfl)) ?_
    refine hr_region_end ?_
    try dsimp only [HAct.put, List.set_cons_zero, List.set_cons_succ]
    refine q_block e25 ?_
    obtain ⟨p51, hp51, h⟩ := bindo h
    obtain ⟨p52, hp52, h⟩ := bindo h
    obtain ⟨n53, hn53, h⟩ := bindo h
    refine q_range (D := D) (H := H) e26 (.tmp rfl) hD hH hp51 hp52 ?_ ?_
    · intro β1 hle hLA vs T u T' hr
      obtain ⟨u50, hu50, hr⟩ := bindo hr
      obtain ⟨ar47, har47, hr⟩ := bindo hr
      obtain ⟨p48, hp48, hr⟩ := bindo hr
      obtain ⟨p49, hp49, hr⟩ := bindo hr
      rw [args2_out har47]
      refine q_yield2 hLA hu50 rfl rfl ?_
      rw [dS_out hp48, dI_out hp49]
      simp only [HAct.params, List.set_cons_zero, List.set_cons_succ]
      exact J1_snd hD (hH.up hle) hr
    · rcases ifc h with ⟨hc54, h⟩ | ⟨hc54, h⟩
      · rw [pcode0 hn53 hc54]
        simp only [jumped_none, jumped_some]
        refine hr_inBlock ?_
        refine q_seq e42 ?_
        refine q_region e43 rfl ?_
        obtain ⟨p55, hp55, h⟩ := bindo h
        refine q_op (dst := some 50) rfl (fun _ ho => ok_load_s ho sc4 (.tmp rfl) rfl (ldB_out hp55)) ?_
        refine q_op (dst := some 51) rfl (fun _ ho => ok_move ho (.tmp rfl)) ?_
        rcases ifc h with ⟨hc56, h⟩ | ⟨hc56, h⟩
        · obtain ⟨p57, hp57, h⟩ := bindo h
          refine q_op_g (t := 51) (dst := some 52) rfl rfl rfl hc56 (fun _ ho => ok_load_s ho sc3 (.tmp rfl) rfl (ldI_out hp57)) ?_
          obtain ⟨p58, hp58, h⟩ := bindo h
          obtain ⟨p59, hp59, h⟩ := bindo h
          refine q_op_g (t := 51) (dst := some 53) rfl rfl rfl hc56 (fun _ ho => ok_load_s ho sc22 (.tmp rfl) hp58 (ldSl_out hp59)) ?_
          try dsimp only [HAct.put, List.set_cons_zero, List.set_cons_succ]
          refine q_op_g (t := 51) (dst := some 54) rfl rfl rfl hc56 (fun _ ho => ok_len_sl (q := Sl.a p59) (n := Sl.len p59) (z := Sl.cap p59) ho rfl tu22 (.tmp rfl)) ?_
          refine q_op_g (t := 51) (dst := some 55) rfl rfl rfl hc56 (fun _ ho => ok_ibin ho (.tmp rfl) (.tmp rfl) rfl) ?_
          refine q_op (dst := some 56) rfl (fun _ ho => ok_pick_tt ho (.tmp rfl) hc56 (.tmp rfl)) ?_
          try dsimp only [HAct.put, List.set_cons_zero, List.set_cons_succ]
          exact J4_snd hD hH h
        · refine q_skip (dst := some 52) (t := 51) rfl rfl rfl (bfalse hc56) ?_
          refine q_skip (dst := some 53) (t := 51) rfl rfl rfl (bfalse hc56) ?_
          try dsimp only [HAct.put, List.set_cons_zero, List.set_cons_succ]
          refine q_skip (dst := some 54) (t := 51) rfl rfl rfl (bfalse hc56) ?_
          refine q_skip (dst := some 55) (t := 51) rfl rfl rfl (bfalse hc56) ?_
          refine q_op (dst := some 56) rfl (fun _ ho => ok_pick_ff ho (.tmp rfl) (bfalse hc56) (.bool _)) ?_
          try dsimp only [HAct.put, List.set_cons_zero, List.set_cons_succ]
          exact J4_snd hD hH h
      · rcases ifc h with ⟨hc65, h⟩ | ⟨hc65, h⟩
        · rw [pcode1 hn53 hc65]
          simp only [jumped_none, jumped_some]
          obtain ⟨p66, hp66, h⟩ := bindo h
          obtain ⟨p67, hp67, h⟩ := bindo h
          obtain ⟨p68, hp68, h⟩ := bindo h
          cases h
          exact q_ret rfl at_.at_ hp66 (resL1 rfl (.cell rfl hp67 sc4 (ldB_out hp68))) ⟨rfl, rfl⟩
        · cases h
def f (D : Dp) (H : Hd) (k : Nat) (x0 : (Option HA)) (x1 : Sl) (x2 : (List UInt8)) (x3 : Bool) (S : HS) : Option ((Bool) × HS) :=
  (letv (HS.new S (.cells 1 [[(Sl.hv x1)]] true)) fun p1 =>
  (letv (HS.new p1 (.cells 1 [[(.bool false)]] true)) fun p2 =>
  (Option.bind (was_Past_int_Find.f k x0 x2 p2) fun p3 =>
  (if x3 = true then
  (Option.bind (was_Past_int_All.f k x0 p3.2) fun p5 =>
  J0 D H k (some (HA.cell0 S.next)) (some (HA.cell0 p1.next)) p5.1 [] p5.2) else
  J0 D H k (some (HA.cell0 S.next)) (some (HA.cell0 p1.next)) p3.1 [] p3.2))))
theorem snd {D : Dp} {H : Hd} {k : Nat} {x0 : (Option HA)} {x1 : Sl} {x2 : (List UInt8)} {x3 : Bool} {S : HS} (hD : DSound Try.prog base W0 D) (hH : HSound Try.prog base W0 β0 H)  {p : (Bool) × HS} (h : f D H k x0 x1 x2 x3 S = some p) : HCall Try.prog base W0 β0 9 [(.ptr x0), (Sl.hv x1), (.str x2), (.bool x3)] S (fun v S1 => v = (.bool p.1) ∧ S1 = p.2) := by
  unfold f at h
  refine HCall.of_run at_.at_ body ?_
  show HRun Try.prog base W0 β0 9 none [.code c0] ⟨[(.ptr x0), (Sl.hv x1), (.str x2), (.bool x3), .tup [], .tup [], .tup [], .tup [], .tup [], .tup [], .tup [], .tup [], .tup [], .tup [], .tup [], .tup [], .tup [], .tup [], .tup [], .tup [], .tup [], .tup [], .tup [], .tup [], .tup [], .tup [], .tup [], .tup [], .tup [], .tup [], .tup [], .tup [], .tup [], .tup [], .tup [], .tup [], .tup [], .tup [], .tup [], .tup [], .tup [], .tup [], .tup [], .tup [], .tup [], .tup [], .tup [], .tup [], .tup [], .tup [], .tup [], .tup [], .tup [], .tup [], .tup [], .tup [], .tup []], []⟩ S _
  refine q_seq e0 ?_
  refine q_region e1 rfl ?_
  obtain ⟨p1, hp1, h⟩ := leto h
  refine q_op (dst := some 5) rfl (fun _ ho => ok_box_e ho (.tmp rfl) (Nat.zero_lt_succ _) rfl hp1) ?_
  obtain ⟨p2, hp2, h⟩ := leto h
  refine q_op (dst := some 8) rfl (fun _ ho => ok_alloc_e ho zi4 zr4 (by decide) rfl hp2) ?_
  refine hr_region_end ?_
  try dsimp only [HAct.put, List.set_cons_zero, List.set_cons_succ]
  refine q_seq e2 ?_
  refine q_region e3 rfl ?_
  refine q_op (dst := some 14) rfl (fun _ ho => ok_move ho (.tmp rfl)) ?_
  refine q_op (dst := some 15) rfl (fun _ ho => ok_move ho (.tmp rfl)) ?_
  obtain ⟨p3, hp3, h⟩ := bindo h
  refine q_call (dst := some 16) rfl (.func _) (.cons (.tmp rfl) (.cons (.tmp rfl) Evs.nil)) (HInv.static was_Past_int_Find.at_ was_Past_int_Find.body (was_Past_int_Find.snd  hp3)) ?_
  rintro _ _ ⟨rfl, rfl⟩
  refine q_op (dst := some 9) rfl (fun _ ho => ok_assign ho (.tmp rfl)) ?_
  refine hr_region_end ?_
  try dsimp only [HAct.put, List.set_cons_zero, List.set_cons_succ]
  refine q_seq e4 ?_
  refine q_seq e5 ?_
  refine q_region e6 rfl ?_
  refine q_op (dst := some 17) rfl (fun _ ho => ok_move ho (.tmp rfl)) ?_
  refine hr_region_end ?_
  try dsimp only [HAct.put, List.set_cons_zero, List.set_cons_succ]
  rcases ifc h with ⟨hc4, h⟩ | ⟨hc4, h⟩
  · refine q_cond_t e7 (.tmp rfl) hc4 ?_
    refine q_region e8 rfl ?_
    refine q_op (dst := some 18) rfl (fun _ ho => ok_move ho (.tmp rfl)) ?_
    obtain ⟨p5, hp5, h⟩ := bindo h
    refine q_call (dst := some 19) rfl (.func _) (.cons (.tmp rfl) Evs.nil) (HInv.static was_Past_int_All.at_ was_Past_int_All.body (was_Past_int_All.snd  hp5)) ?_
    rintro _ _ ⟨rfl, rfl⟩
    refine q_op (dst := some 9) rfl (fun _ ho => ok_assign ho (.tmp rfl)) ?_
    refine hr_region_end ?_
    try dsimp only [HAct.put, List.set_cons_zero, List.set_cons_succ]
    try dsimp only [HAct.put, List.set_cons_zero, List.set_cons_succ]
    exact J0_snd hD hH h
  · refine q_cond_f e7 (.tmp rfl) (bfalse hc4) ?_
    refine q_skipc e9 ?_
    try dsimp only [HAct.put, List.set_cons_zero, List.set_cons_succ]
    exact J0_snd hD hH h
end
end rollcalllaw13_same
namespace rollcalllaw13_awake
abbrev id : Nat := 5
theorem at_ : FnAt Try.prog 5 Try.f5 := ⟨Try.func5, by kernel_rfl⟩
noncomputable def c0 : Code := (Try.f5.body).getD .skip
noncomputable def c1 : Code := match c0 with | .seq x _ => x | _ => .skip
noncomputable def c2 : Code := match c0 with | .seq _ x => x | _ => .skip
noncomputable def c3 : Code := match c2 with | .seq x _ => x | _ => .skip
noncomputable def c4 : Code := match c2 with | .seq _ x => x | _ => .skip
noncomputable def c5 : Code := match c4 with | .seq x _ => x | _ => .skip
noncomputable def c6 : Code := match c5 with | .seq x _ => x | _ => .skip
noncomputable def c7 : Code := match c5 with | .seq _ x => x | _ => .skip
noncomputable def c8 : Code := match c7 with | .cond _ x _ => x | _ => .skip
noncomputable def c9 : Code := match c8 with | .seq x _ => x | _ => .skip
noncomputable def c10 : Code := match c8 with | .seq _ x => x | _ => .skip
noncomputable def c11 : Code := match c7 with | .cond _ _ x => x | _ => .skip
noncomputable def c12 : Code := match c4 with | .seq _ x => x | _ => .skip
noncomputable def c13 : Code := match c12 with | .seq x _ => x | _ => .skip
noncomputable def c14 : Code := match c12 with | .seq _ x => x | _ => .skip
noncomputable def c15 : Code := match c14 with | .seq x _ => x | _ => .skip
noncomputable def c16 : Code := match c14 with | .seq _ x => x | _ => .skip
noncomputable def c17 : Code := match c16 with | .seq x _ => x | _ => .skip
noncomputable def c18 : Code := match c16 with | .seq _ x => x | _ => .skip
noncomputable def c19 : Code := match c18 with | .seq x _ => x | _ => .skip
noncomputable def c20 : Code := match c18 with | .seq _ x => x | _ => .skip
theorem e0 : c0 = .seq c1 c2 := by kernel_rfl
noncomputable def r1 : Array Oper := match c1 with | .region _ x _ => x | _ => #[]
theorem e1 : c1 = .region 0 r1 false := by kernel_rfl
theorem e2 : c2 = .seq c3 c4 := by kernel_rfl
noncomputable def r3 : Array Oper := match c3 with | .region _ x _ => x | _ => #[]
theorem e3 : c3 = .region 1 r3 false := by kernel_rfl
theorem e4 : c4 = .seq c5 c12 := by kernel_rfl
theorem e5 : c5 = .seq c6 c7 := by kernel_rfl
noncomputable def r6 : Array Oper := match c6 with | .region _ x _ => x | _ => #[]
theorem e6 : c6 = .region 2 r6 false := by kernel_rfl
theorem e7 : c7 = .cond (.tmp 8) c8 c11 := by kernel_rfl
theorem e8 : c8 = .seq c9 c10 := by kernel_rfl
noncomputable def r9 : Array Oper := match c9 with | .region _ x _ => x | _ => #[]
theorem e9 : c9 = .region 3 r9 false := by kernel_rfl
theorem e10 : c10 = .ret := by kernel_rfl
theorem e11 : c11 = .skip := by kernel_rfl
theorem e12 : c12 = .seq c13 c14 := by kernel_rfl
noncomputable def r13 : Array Oper := match c13 with | .region _ x _ => x | _ => #[]
theorem e13 : c13 = .region 4 r13 false := by kernel_rfl
theorem e14 : c14 = .seq c15 c16 := by kernel_rfl
noncomputable def r15 : Array Oper := match c15 with | .region _ x _ => x | _ => #[]
theorem e15 : c15 = .region 5 r15 false := by kernel_rfl
theorem e16 : c16 = .seq c17 c18 := by kernel_rfl
noncomputable def r17 : Array Oper := match c17 with | .region _ x _ => x | _ => #[]
theorem e17 : c17 = .region 6 r17 false := by kernel_rfl
theorem e18 : c18 = .seq c19 c20 := by kernel_rfl
noncomputable def r19 : Array Oper := match c19 with | .region _ x _ => x | _ => #[]
theorem e19 : c19 = .region 7 r19 false := by kernel_rfl
theorem e20 : c20 = .ret := by kernel_rfl
theorem body : Try.f5.body = some c0 := by kernel_rfl
section
variable {base : Nat} {W0 : World} {β0 : Bt}
def J0 (D : Dp) (H : Hd) (k : Nat) (y25 : Bool) (S : HS) : Option ((Bool) × HS) :=
  some (y25, S)
theorem J0_snd {D : Dp} {H : Hd} {k : Nat} (hD : DSound Try.prog base W0 D) (hH : HSound Try.prog base W0 β0 H)  {y25 : Bool} {S : HS} {p : (Bool) × HS} {g0 g1 g2 g3 g4 g5 g6 g7 g8 g9 g10 g11 g12 g13 g14 g15 g16 g17 g18 g19 g20 g21 g22 g23 g24 : HV} (h : J0 D H k y25 S = some p) : HRun Try.prog base W0 β0 5 none [.inRegion r19 [11], .code c20] ⟨[g0, g1, g2, g3, g4, g5, g6, g7, g8, g9, g10, g11, g12, g13, g14, g15, g16, g17, g18, g19, g20, g21, g22, g23, g24, (.bool y25)], []⟩ S (fun v S1 => v = (.bool p.1) ∧ S1 = p.2) := by
  unfold J0 at h
  refine q_op (dst := some 0) rfl (fun _ ho => ok_assign ho (.tmp rfl)) ?_
  refine hr_region_end ?_
  try dsimp only [HAct.put, List.set_cons_zero, List.set_cons_succ]
  cases h
  exact q_ret e20 at_.at_ rfl (res1 rfl rfl) ⟨rfl, rfl⟩
def f (D : Dp) (H : Hd) (k : Nat) (S : HS) : Option ((Bool) × HS) :=
  (Option.bind (was_New_int.f 2 S) fun p1 =>
  (if (!decide (p1.1.2 = 0)) = true then
  some (false, p1.2) else
  (Option.bind (was_Past_int_Put.f p1.1.1 ([97] : List UInt8) 1 p1.2) fun p3 =>
  (Option.bind (was_Past_int_Put.f p1.1.1 ([98] : List UInt8) 2 p3.2) fun p4 =>
  (Option.bind (was_Past_int_Put.f p1.1.1 ([65] : List UInt8) 3 p4.2) fun p5 =>
  (letv (HS.lit p5.2 [[(.str ([65] : List UInt8)), (.int .i64 3)], [(.str ([98] : List UInt8)), (.int .i64 2)]] 2) fun p6 =>
  (Option.bind (rollcalllaw13_same.f D H k p1.1.1 (p6.1) ([] : List UInt8) true (p6.2)) fun p7 =>
  (if p7.1 = true then
  (letv (HS.lit p7.2 [[(.str ([65] : List UInt8)), (.int .i64 3)]] 2) fun p9 =>
  (Option.bind (rollcalllaw13_same.f D H k p1.1.1 (p9.1) ([97] : List UInt8) false (p9.2)) fun p10 =>
  J0 D H k p10.1 p10.2)) else
  J0 D H k false p7.2))))))))
theorem snd {D : Dp} {H : Hd} {k : Nat} {S : HS} (hD : DSound Try.prog base W0 D) (hH : HSound Try.prog base W0 β0 H)  {p : (Bool) × HS} (h : f D H k S = some p) : HCall Try.prog base W0 β0 5 [] S (fun v S1 => v = (.bool p.1) ∧ S1 = p.2) := by
  unfold f at h
  refine HCall.of_run at_.at_ body ?_
  show HRun Try.prog base W0 β0 5 none [.code c0] ⟨[.tup [], .tup [], .tup [], .tup [], .tup [], .tup [], .tup [], .tup [], .tup [], .tup [], .tup [], .tup [], .tup [], .tup [], .tup [], .tup [], .tup [], .tup [], .tup [], .tup [], .tup [], .tup [], .tup [], .tup [], .tup [], .tup []], []⟩ S _
  refine q_seq e0 ?_
  refine q_region e1 rfl ?_
  refine q_op (dst := some 0) rfl (fun _ ho => ok_assign ho (.bool _)) ?_
  refine hr_region_end ?_
  try dsimp only [HAct.put, List.set_cons_zero, List.set_cons_succ]
  refine q_seq e2 ?_
  refine q_region e3 rfl ?_
  obtain ⟨p1, hp1, h⟩ := bindo h
  refine q_call (dst := some 4) rfl (.func _) (.cons (.int _ _) Evs.nil) (HInv.static was_New_int.at_ was_New_int.body (was_New_int.snd  hp1)) ?_
  rintro _ _ ⟨rfl, rfl⟩
  refine q_op (dst := some 3) rfl (fun _ ho => ok_move ho (.tmp rfl)) ?_
  refine q_op (dst := some 5) rfl (fun _ ho => ok_extract ho (.tmp rfl) rfl) ?_
  refine q_op (dst := some 6) rfl (fun _ ho => ok_extract ho (.tmp rfl) rfl) ?_
  try dsimp only [HAct.put, List.set_cons_zero, List.set_cons_succ]
  refine q_op (dst := some 1) rfl (fun _ ho => ok_assign ho (.tmp rfl)) ?_
  refine q_op (dst := some 2) rfl (fun _ ho => ok_assign ho (.tmp rfl)) ?_
  refine hr_region_end ?_
  try dsimp only [HAct.put, List.set_cons_zero, List.set_cons_succ]
  refine q_seq e4 ?_
  refine q_seq e5 ?_
  refine q_region e6 rfl ?_
  refine q_op (dst := some 7) rfl (fun _ ho => ok_move ho (.tmp rfl)) ?_
  refine q_op (dst := some 8) rfl (fun _ ho => ok_ibin ho (.tmp rfl) (.int _ _) rfl) ?_
  refine hr_region_end ?_
  try dsimp only [HAct.put, List.set_cons_zero, List.set_cons_succ]
  rcases ifc h with ⟨hc2, h⟩ | ⟨hc2, h⟩
  · refine q_cond_t e7 (.tmp rfl) hc2 ?_
    refine q_seq e8 ?_
    refine q_region e9 rfl ?_
    refine q_op (dst := some 0) rfl (fun _ ho => ok_assign ho (.bool _)) ?_
    refine hr_region_end ?_
    try dsimp only [HAct.put, List.set_cons_zero, List.set_cons_succ]
    cases h
    exact q_ret e10 at_.at_ rfl (res1 rfl rfl) ⟨rfl, rfl⟩
  · refine q_cond_f e7 (.tmp rfl) (bfalse hc2) ?_
    refine q_skipc e11 ?_
    refine q_seq e12 ?_
    refine q_region e13 rfl ?_
    refine q_op (dst := some 9) rfl (fun _ ho => ok_move ho (.tmp rfl)) ?_
    obtain ⟨p3, hp3, h⟩ := bindo h
    refine q_call (dst := some 10) rfl (.func _) (.cons (.tmp rfl) (.cons (.str _) (.cons (.int _ _) Evs.nil))) (HInv.static was_Past_int_Put.at_ was_Past_int_Put.body (was_Past_int_Put.snd  hp3)) ?_
    rintro _ _ ⟨rfl, rfl⟩
    refine hr_region_end ?_
    try dsimp only [HAct.put, List.set_cons_zero, List.set_cons_succ]
    refine q_seq e14 ?_
    refine q_region e15 rfl ?_
    refine q_op (dst := some 11) rfl (fun _ ho => ok_move ho (.tmp rfl)) ?_
    obtain ⟨p4, hp4, h⟩ := bindo h
    refine q_call (dst := some 12) rfl (.func _) (.cons (.tmp rfl) (.cons (.str _) (.cons (.int _ _) Evs.nil))) (HInv.static was_Past_int_Put.at_ was_Past_int_Put.body (was_Past_int_Put.snd  hp4)) ?_
    rintro _ _ ⟨rfl, rfl⟩
    refine hr_region_end ?_
    try dsimp only [HAct.put, List.set_cons_zero, List.set_cons_succ]
    refine q_seq e16 ?_
    refine q_region e17 rfl ?_
    refine q_op (dst := some 13) rfl (fun _ ho => ok_move ho (.tmp rfl)) ?_
    obtain ⟨p5, hp5, h⟩ := bindo h
    refine q_call (dst := some 14) rfl (.func _) (.cons (.tmp rfl) (.cons (.str _) (.cons (.int _ _) Evs.nil))) (HInv.static was_Past_int_Put.at_ was_Past_int_Put.body (was_Past_int_Put.snd  hp5)) ?_
    rintro _ _ ⟨rfl, rfl⟩
    refine hr_region_end ?_
    try dsimp only [HAct.put, List.set_cons_zero, List.set_cons_succ]
    refine q_seq e18 ?_
    refine q_region e19 rfl ?_
    refine q_op (dst := some 15) rfl (fun _ ho => ok_move ho (.tmp rfl)) ?_
    refine q_op (dst := some 16) rfl (fun _ ho => ok_build (is := [0, 1]) (xs := [(.const (.string ⟨#[65]⟩)), (.const (.int .i64 3))]) (r := [(.str ([65] : List UInt8)), (.int .i64 3)]) st29 ho rfl rfl (.cons (.str _) (.cons (.int _ _) Evs.nil)) rfl) ?_
    refine q_op (dst := some 17) rfl (fun _ ho => ok_build (is := [0, 1]) (xs := [(.const (.string ⟨#[98]⟩)), (.const (.int .i64 2))]) (r := [(.str ([98] : List UInt8)), (.int .i64 2)]) st29 ho rfl rfl (.cons (.str _) (.cons (.int _ _) Evs.nil)) rfl) ?_
    obtain ⟨p6, hp6, h⟩ := leto h
    refine q_op (dst := some 18) rfl (fun _ ho => ok_buildSlice_s (xs := [(.tmp 16), (.tmp 17)]) el22 ho rfl rfl (by decide) (.cons (.tmp rfl) (.cons (.tmp rfl) Evs.nil)) rfl rfl hp6) ?_
    try dsimp only [HAct.put, List.set_cons_zero, List.set_cons_succ]
    obtain ⟨p7, hp7, h⟩ := bindo h
    refine q_call (dst := some 19) rfl (.func _) (.cons (.tmp rfl) (.cons (.tmp rfl) (.cons (.str _) (.cons (.bool _) Evs.nil)))) (HInv.static rollcalllaw13_same.at_ rollcalllaw13_same.body (rollcalllaw13_same.snd hD hH hp7)) ?_
    rintro _ _ ⟨rfl, rfl⟩
    refine q_op (dst := some 20) rfl (fun _ ho => ok_move ho (.tmp rfl)) ?_
    rcases ifc h with ⟨hc8, h⟩ | ⟨hc8, h⟩
    · refine q_op_g (t := 20) (dst := some 21) rfl rfl rfl hc8 (fun _ ho => ok_move ho (.tmp rfl)) ?_
      refine q_op_g (t := 20) (dst := some 22) rfl rfl rfl hc8 (fun _ ho => ok_build (is := [0, 1]) (xs := [(.const (.string ⟨#[65]⟩)), (.const (.int .i64 3))]) (r := [(.str ([65] : List UInt8)), (.int .i64 3)]) st29 ho rfl rfl (.cons (.str _) (.cons (.int _ _) Evs.nil)) rfl) ?_
      try dsimp only [HAct.put, List.set_cons_zero, List.set_cons_succ]
      obtain ⟨p9, hp9, h⟩ := leto h
      refine q_op_g (t := 20) (dst := some 23) rfl rfl rfl hc8 (fun _ ho => ok_buildSlice_s (xs := [(.tmp 22)]) el22 ho rfl rfl (by decide) (.cons (.tmp rfl) Evs.nil) rfl rfl hp9) ?_
      obtain ⟨p10, hp10, h⟩ := bindo h
      refine q_call_g (t := 20) (dst := some 24) rfl rfl rfl hc8 (.func _) (.cons (.tmp rfl) (.cons (.tmp rfl) (.cons (.str _) (.cons (.bool _) Evs.nil)))) (HInv.static rollcalllaw13_same.at_ rollcalllaw13_same.body (rollcalllaw13_same.snd hD hH hp10)) ?_
      rintro _ _ ⟨rfl, rfl⟩
      refine q_op (dst := some 25) rfl (fun _ ho => ok_pick_tt ho (.tmp rfl) hc8 (.tmp rfl)) ?_
      try dsimp only [HAct.put, List.set_cons_zero, List.set_cons_succ]
      exact J0_snd hD hH h
    · refine q_skip (dst := some 21) (t := 20) rfl rfl rfl (bfalse hc8) ?_
      refine q_skip (dst := some 22) (t := 20) rfl rfl rfl (bfalse hc8) ?_
      try dsimp only [HAct.put, List.set_cons_zero, List.set_cons_succ]
      refine q_skip (dst := some 23) (t := 20) rfl rfl rfl (bfalse hc8) ?_
      refine q_skip (dst := some 24) (t := 20) rfl rfl rfl (bfalse hc8) ?_
      refine q_op (dst := some 25) rfl (fun _ ho => ok_pick_ff ho (.tmp rfl) (bfalse hc8) (.bool _)) ?_
      try dsimp only [HAct.put, List.set_cons_zero, List.set_cons_succ]
      exact J0_snd hD hH h
end
end rollcalllaw13_awake
namespace rollcallref01_Byte
abbrev id : Nat := 20
theorem at_ : FnAt Try.prog 20 Try.f20 := ⟨Try.func20, by kernel_rfl⟩
noncomputable def c0 : Code := (Try.f20.body).getD .skip
noncomputable def c1 : Code := match c0 with | .seq x _ => x | _ => .skip
noncomputable def c2 : Code := match c0 with | .seq _ x => x | _ => .skip
noncomputable def c3 : Code := match c2 with | .seq x _ => x | _ => .skip
noncomputable def c4 : Code := match c2 with | .seq _ x => x | _ => .skip
noncomputable def c5 : Code := match c4 with | .seq x _ => x | _ => .skip
noncomputable def c6 : Code := match c4 with | .seq _ x => x | _ => .skip
noncomputable def c7 : Code := match c6 with | .seq x _ => x | _ => .skip
noncomputable def c8 : Code := match c7 with | .seq x _ => x | _ => .skip
noncomputable def c9 : Code := match c7 with | .seq _ x => x | _ => .skip
noncomputable def c10 : Code := match c9 with | .block _ x => x | _ => .skip
noncomputable def c11 : Code := match c10 with | .loop x => x | _ => .skip
noncomputable def c12 : Code := match c11 with | .seq x _ => x | _ => .skip
noncomputable def c13 : Code := match c12 with | .seq x _ => x | _ => .skip
noncomputable def c14 : Code := match c12 with | .seq _ x => x | _ => .skip
noncomputable def c15 : Code := match c14 with | .cond _ x _ => x | _ => .skip
noncomputable def c16 : Code := match c14 with | .cond _ _ x => x | _ => .skip
noncomputable def c17 : Code := match c11 with | .seq _ x => x | _ => .skip
noncomputable def c18 : Code := match c17 with | .seq x _ => x | _ => .skip
noncomputable def c19 : Code := match c18 with | .block _ x => x | _ => .skip
noncomputable def c20 : Code := match c19 with | .seq x _ => x | _ => .skip
noncomputable def c21 : Code := match c19 with | .seq _ x => x | _ => .skip
noncomputable def c22 : Code := match c21 with | .cond _ x _ => x | _ => .skip
noncomputable def c23 : Code := match c22 with | .seq x _ => x | _ => .skip
noncomputable def c24 : Code := match c22 with | .seq _ x => x | _ => .skip
noncomputable def c25 : Code := match c21 with | .cond _ _ x => x | _ => .skip
noncomputable def c26 : Code := match c17 with | .seq _ x => x | _ => .skip
noncomputable def c27 : Code := match c6 with | .seq _ x => x | _ => .skip
noncomputable def c28 : Code := match c27 with | .seq x _ => x | _ => .skip
noncomputable def c29 : Code := match c27 with | .seq _ x => x | _ => .skip
theorem e0 : c0 = .seq c1 c2 := by kernel_rfl
noncomputable def r1 : Array Oper := match c1 with | .region _ x _ => x | _ => #[]
theorem e1 : c1 = .region 0 r1 false := by kernel_rfl
theorem e2 : c2 = .seq c3 c4 := by kernel_rfl
noncomputable def r3 : Array Oper := match c3 with | .region _ x _ => x | _ => #[]
theorem e3 : c3 = .region 1 r3 false := by kernel_rfl
theorem e4 : c4 = .seq c5 c6 := by kernel_rfl
noncomputable def r5 : Array Oper := match c5 with | .region _ x _ => x | _ => #[]
theorem e5 : c5 = .region 2 r5 false := by kernel_rfl
theorem e6 : c6 = .seq c7 c27 := by kernel_rfl
theorem e7 : c7 = .seq c8 c9 := by kernel_rfl
noncomputable def r8 : Array Oper := match c8 with | .region _ x _ => x | _ => #[]
theorem e8 : c8 = .region 3 r8 false := by kernel_rfl
theorem e9 : c9 = .block 0 c10 := by kernel_rfl
theorem e10 : c10 = .loop c11 := by kernel_rfl
theorem e11 : c11 = .seq c12 c17 := by kernel_rfl
theorem e12 : c12 = .seq c13 c14 := by kernel_rfl
noncomputable def r13 : Array Oper := match c13 with | .region _ x _ => x | _ => #[]
theorem e13 : c13 = .region 4 r13 false := by kernel_rfl
theorem e14 : c14 = .cond (.tmp 9) c15 c16 := by kernel_rfl
theorem e15 : c15 = .skip := by kernel_rfl
theorem e16 : c16 = .exit 0 := by kernel_rfl
theorem e17 : c17 = .seq c18 c26 := by kernel_rfl
theorem e18 : c18 = .block 1 c19 := by kernel_rfl
theorem e19 : c19 = .seq c20 c21 := by kernel_rfl
noncomputable def r20 : Array Oper := match c20 with | .region _ x _ => x | _ => #[]
theorem e20 : c20 = .region 6 r20 false := by kernel_rfl
theorem e21 : c21 = .cond (.tmp 16) c22 c25 := by kernel_rfl
theorem e22 : c22 = .seq c23 c24 := by kernel_rfl
noncomputable def r23 : Array Oper := match c23 with | .region _ x _ => x | _ => #[]
theorem e23 : c23 = .region 7 r23 false := by kernel_rfl
theorem e24 : c24 = .ret := by kernel_rfl
theorem e25 : c25 = .skip := by kernel_rfl
noncomputable def r26 : Array Oper := match c26 with | .region _ x _ => x | _ => #[]
theorem e26 : c26 = .region 5 r26 false := by kernel_rfl
theorem e27 : c27 = .seq c28 c29 := by kernel_rfl
noncomputable def r28 : Array Oper := match c28 with | .region _ x _ => x | _ => #[]
theorem e28 : c28 = .region 8 r28 false := by kernel_rfl
theorem e29 : c29 = .ret := by kernel_rfl
theorem body : Try.f20.body = some c0 := by kernel_rfl
section
variable {base : Nat} {W0 : World} {β0 : Bt}
def L0 (k : Nat) : Nat → Int → (List UInt8) → (List UInt8) → Int → Option (Int)
  | 0, _, _, _, _ => none
  | n + 1, y0, y3, y4, y5 =>
    (if y5 < (List.length y3 : Int) then
    (Option.bind (sat y3 y5) fun p2 =>
    (if (UInt8.toNat p2 : Int) = y0 then
    (Option.bind (sat y4 y5) fun p4 =>
    some (UInt8.toNat p4 : Int)) else
    (L0 k n) y0 y3 y4 (w64 (y5 + 1)))) else
    some y0)
theorem L0_snd {k : Nat}  : ∀ {n : Nat} ⦃y0 : Int⦄ ⦃y3 : (List UInt8)⦄ ⦃y4 : (List UInt8)⦄ ⦃y5 : Int⦄ ⦃S : HS⦄ ⦃p : Int⦄ ⦃g1 g2 g6 g7 g8 g9 g10 g11 g12 g13 g14 g15 g16 g17 g18 g19 g20 : HV⦄, L0 k n y0 y3 y4 y5 = some p → HRun Try.prog base W0 β0 20 none [.inLoop c11, .inBlock 0, .code c27] ⟨[(.int .u8 y0), g1, g2, (.str y3), (.str y4), (.int .i64 y5), g6, g7, g8, g9, g10, g11, g12, g13, g14, g15, g16, g17, g18, g19, g20], []⟩ S (fun v S1 => v = (.int .u8 p) ∧ S1 = S) := by
  intro n
  induction n with
  | zero => intro _ _ _ _ _ _ _ _ _ _ _ _ _ _ _ _ _ _ _ _ _ _ _ h; cases h
  | succ n ih =>
    intro y0 y3 y4 y5 S p g1 g2 g6 g7 g8 g9 g10 g11 g12 g13 g14 g15 g16 g17 g18 g19 g20 h
    simp only [L0] at h
    refine hr_inLoop ?_
    refine q_seq e11 ?_
    refine q_seq e12 ?_
    refine q_region e13 rfl ?_
    refine q_op (dst := some 6) rfl (fun _ ho => ok_move ho (.tmp rfl)) ?_
    refine q_op (dst := some 7) rfl (fun _ ho => ok_move ho (.tmp rfl)) ?_
    refine q_op (dst := some 8) rfl (fun _ ho => ok_len_str ho rfl tu9 (.tmp rfl)) ?_
    refine q_op (dst := some 9) rfl (fun _ ho => ok_ibin ho (.tmp rfl) (.tmp rfl) rfl) ?_
    refine hr_region_end ?_
    try dsimp only [HAct.put, List.set_cons_zero, List.set_cons_succ]
    rcases ifc h with ⟨hc1, h⟩ | ⟨hc1, h⟩
    · refine q_cond_t e14 (.tmp rfl) (decide_eq_true hc1) ?_
      refine q_skipc e15 ?_
      refine q_seq e17 ?_
      refine q_block e18 ?_
      refine q_seq e19 ?_
      refine q_region e20 rfl ?_
      refine q_op (dst := some 12) rfl (fun _ ho => ok_move ho (.tmp rfl)) ?_
      refine q_op (dst := some 13) rfl (fun _ ho => ok_move ho (.tmp rfl)) ?_
      obtain ⟨p2, hp2, h⟩ := bindo h
      refine q_op (dst := some 14) rfl (fun _ ho => ok_index_s ho tu9 (.tmp rfl) (.tmp rfl) hp2) ?_
      refine q_op (dst := some 15) rfl (fun _ ho => ok_move ho (.tmp rfl)) ?_
      try dsimp only [HAct.put, List.set_cons_zero, List.set_cons_succ]
      refine q_op (dst := some 16) rfl (fun _ ho => ok_ibin ho (.tmp rfl) (.tmp rfl) rfl) ?_
      refine hr_region_end ?_
      try dsimp only [HAct.put, List.set_cons_zero, List.set_cons_succ]
      rcases ifc h with ⟨hc3, h⟩ | ⟨hc3, h⟩
      · refine q_cond_t e21 (.tmp rfl) (decide_eq_true hc3) ?_
        refine q_seq e22 ?_
        refine q_region e23 rfl ?_
        refine q_op (dst := some 17) rfl (fun _ ho => ok_move ho (.tmp rfl)) ?_
        refine q_op (dst := some 18) rfl (fun _ ho => ok_move ho (.tmp rfl)) ?_
        obtain ⟨p4, hp4, h⟩ := bindo h
        refine q_op (dst := some 19) rfl (fun _ ho => ok_index_s ho tu9 (.tmp rfl) (.tmp rfl) hp4) ?_
        refine q_op (dst := some 2) rfl (fun _ ho => ok_assign ho (.tmp rfl)) ?_
        refine hr_region_end ?_
        try dsimp only [HAct.put, List.set_cons_zero, List.set_cons_succ]
        cases h
        exact q_ret e24 at_.at_ rfl (res1 rfl rfl) ⟨rfl, rfl⟩
      · refine q_cond_f e21 (.tmp rfl) (decide_eq_false hc3) ?_
        refine q_skipc e25 ?_
        refine hr_inBlock ?_
        refine q_region e26 rfl ?_
        refine q_op (dst := some 10) rfl (fun _ ho => ok_move ho (.tmp rfl)) ?_
        refine q_op (dst := some 11) rfl (fun _ ho => ok_ibin ho (.tmp rfl) (.int _ _) rfl) ?_
        refine q_op (dst := some 5) rfl (fun _ ho => ok_assign ho (.tmp rfl)) ?_
        refine hr_region_end ?_
        try dsimp only [HAct.put, List.set_cons_zero, List.set_cons_succ]
        try dsimp only [HAct.put, List.set_cons_zero, List.set_cons_succ]
        exact ih h
    · refine q_cond_f e14 (.tmp rfl) (decide_eq_false hc1) ?_
      refine q_exit e16 rfl ?_
      refine q_seq e27 ?_
      refine q_region e28 rfl ?_
      refine q_op (dst := some 20) rfl (fun _ ho => ok_move ho (.tmp rfl)) ?_
      refine q_op (dst := some 2) rfl (fun _ ho => ok_assign ho (.tmp rfl)) ?_
      refine hr_region_end ?_
      try dsimp only [HAct.put, List.set_cons_zero, List.set_cons_succ]
      cases h
      exact q_ret e29 at_.at_ rfl (res1 rfl rfl) ⟨rfl, rfl⟩
def f (k : Nat) (x0 : Int) : Option (Int) :=
  L0 k k x0 ([65, 66, 67, 68, 69, 70, 71, 72, 73, 74, 75, 76, 77, 78, 79, 80, 81, 82, 83, 84, 85, 86, 87, 88, 89, 90, 91, 93, 92, 126] : List UInt8) ([97, 98, 99, 100, 101, 102, 103, 104, 105, 106, 107, 108, 109, 110, 111, 112, 113, 114, 115, 116, 117, 118, 119, 120, 121, 122, 123, 125, 124, 94] : List UInt8) 0
theorem snd {k : Nat} {x0 : Int} {S : HS}  {p : Int} (h : f k x0 = some p) : HCall Try.prog base W0 β0 20 [(.int .u8 x0)] S (fun v S1 => v = (.int .u8 p) ∧ S1 = S) := by
  unfold f at h
  refine HCall.of_run at_.at_ body ?_
  show HRun Try.prog base W0 β0 20 none [.code c0] ⟨[(.int .u8 x0), .tup [], .tup [], .tup [], .tup [], .tup [], .tup [], .tup [], .tup [], .tup [], .tup [], .tup [], .tup [], .tup [], .tup [], .tup [], .tup [], .tup [], .tup [], .tup [], .tup []], []⟩ S _
  refine q_seq e0 ?_
  refine q_region e1 rfl ?_
  refine q_op (dst := some 2) rfl (fun _ ho => ok_assign ho (.int _ _)) ?_
  refine hr_region_end ?_
  try dsimp only [HAct.put, List.set_cons_zero, List.set_cons_succ]
  refine q_seq e2 ?_
  refine q_region e3 rfl ?_
  refine q_op (dst := some 3) rfl (fun _ ho => ok_assign ho (.str _)) ?_
  refine hr_region_end ?_
  try dsimp only [HAct.put, List.set_cons_zero, List.set_cons_succ]
  refine q_seq e4 ?_
  refine q_region e5 rfl ?_
  refine q_op (dst := some 4) rfl (fun _ ho => ok_assign ho (.str _)) ?_
  refine hr_region_end ?_
  try dsimp only [HAct.put, List.set_cons_zero, List.set_cons_succ]
  refine q_seq e6 ?_
  refine q_seq e7 ?_
  refine q_region e8 rfl ?_
  refine q_op (dst := some 5) rfl (fun _ ho => ok_assign ho (.int _ _)) ?_
  refine hr_region_end ?_
  try dsimp only [HAct.put, List.set_cons_zero, List.set_cons_succ]
  refine q_block e9 ?_
  refine q_loop e10 ?_
  try dsimp only [HAct.put, List.set_cons_zero, List.set_cons_succ]
  exact L0_snd  h
end
end rollcallref01_Byte
namespace rollcallref01_Text
abbrev id : Nat := 18
theorem at_ : FnAt Try.prog 18 Try.f18 := ⟨Try.func18, by kernel_rfl⟩
noncomputable def c0 : Code := (Try.f18.body).getD .skip
noncomputable def c1 : Code := match c0 with | .seq x _ => x | _ => .skip
noncomputable def c2 : Code := match c0 with | .seq _ x => x | _ => .skip
noncomputable def c3 : Code := match c2 with | .seq x _ => x | _ => .skip
noncomputable def c4 : Code := match c2 with | .seq _ x => x | _ => .skip
noncomputable def c5 : Code := match c4 with | .seq x _ => x | _ => .skip
noncomputable def c6 : Code := match c5 with | .seq x _ => x | _ => .skip
noncomputable def c7 : Code := match c5 with | .seq _ x => x | _ => .skip
noncomputable def c8 : Code := match c7 with | .block _ x => x | _ => .skip
noncomputable def c9 : Code := match c8 with | .loop x => x | _ => .skip
noncomputable def c10 : Code := match c9 with | .seq x _ => x | _ => .skip
noncomputable def c11 : Code := match c10 with | .seq x _ => x | _ => .skip
noncomputable def c12 : Code := match c10 with | .seq _ x => x | _ => .skip
noncomputable def c13 : Code := match c12 with | .cond _ x _ => x | _ => .skip
noncomputable def c14 : Code := match c12 with | .cond _ _ x => x | _ => .skip
noncomputable def c15 : Code := match c9 with | .seq _ x => x | _ => .skip
noncomputable def c16 : Code := match c15 with | .seq x _ => x | _ => .skip
noncomputable def c17 : Code := match c16 with | .block _ x => x | _ => .skip
noncomputable def c18 : Code := match c15 with | .seq _ x => x | _ => .skip
noncomputable def c19 : Code := match c4 with | .seq _ x => x | _ => .skip
noncomputable def c20 : Code := match c19 with | .seq x _ => x | _ => .skip
noncomputable def c21 : Code := match c19 with | .seq _ x => x | _ => .skip
theorem e0 : c0 = .seq c1 c2 := by kernel_rfl
noncomputable def r1 : Array Oper := match c1 with | .region _ x _ => x | _ => #[]
theorem e1 : c1 = .region 0 r1 false := by kernel_rfl
theorem e2 : c2 = .seq c3 c4 := by kernel_rfl
noncomputable def r3 : Array Oper := match c3 with | .region _ x _ => x | _ => #[]
theorem e3 : c3 = .region 1 r3 false := by kernel_rfl
theorem e4 : c4 = .seq c5 c19 := by kernel_rfl
theorem e5 : c5 = .seq c6 c7 := by kernel_rfl
noncomputable def r6 : Array Oper := match c6 with | .region _ x _ => x | _ => #[]
theorem e6 : c6 = .region 2 r6 false := by kernel_rfl
theorem e7 : c7 = .block 0 c8 := by kernel_rfl
theorem e8 : c8 = .loop c9 := by kernel_rfl
theorem e9 : c9 = .seq c10 c15 := by kernel_rfl
theorem e10 : c10 = .seq c11 c12 := by kernel_rfl
noncomputable def r11 : Array Oper := match c11 with | .region _ x _ => x | _ => #[]
theorem e11 : c11 = .region 3 r11 false := by kernel_rfl
theorem e12 : c12 = .cond (.tmp 8) c13 c14 := by kernel_rfl
theorem e13 : c13 = .skip := by kernel_rfl
theorem e14 : c14 = .exit 0 := by kernel_rfl
theorem e15 : c15 = .seq c16 c18 := by kernel_rfl
theorem e16 : c16 = .block 1 c17 := by kernel_rfl
noncomputable def r17 : Array Oper := match c17 with | .region _ x _ => x | _ => #[]
theorem e17 : c17 = .region 5 r17 false := by kernel_rfl
noncomputable def r18 : Array Oper := match c18 with | .region _ x _ => x | _ => #[]
theorem e18 : c18 = .region 4 r18 false := by kernel_rfl
theorem e19 : c19 = .seq c20 c21 := by kernel_rfl
noncomputable def r20 : Array Oper := match c20 with | .region _ x _ => x | _ => #[]
theorem e20 : c20 = .region 6 r20 false := by kernel_rfl
theorem e21 : c21 = .ret := by kernel_rfl
theorem body : Try.f18.body = some c0 := by kernel_rfl
section
variable {base : Nat} {W0 : World} {β0 : Bt}
def L0 (k : Nat) : Nat → (List UInt8) → (List UInt8) → Int → HS → Option (((List UInt8)) × HS)
  | 0, _, _, _, _ => none
  | n + 1, y0, y3, y4, S =>
    (if y4 < (List.length y0 : Int) then
    (Option.bind (sat y0 y4) fun p2 =>
    (Option.bind (rollcallref01_Byte.f k (UInt8.toNat p2 : Int)) fun p3 =>
    (letv (HS.lit S [[(.int .u8 p3)]] 1) fun p4 =>
    (Option.bind (HS.text (p4.2) (p4.1)) fun p5 =>
    (if List.length y3 + List.length p5 ≤ 9223372036854775807 then
    (L0 k n) y0 (y3 ++ p5) (w64 (y4 + 1)) (p4.2) else none))))) else
    some (y3, S))
theorem L0_snd {k : Nat}  : ∀ {n : Nat} ⦃y0 : (List UInt8)⦄ ⦃y3 : (List UInt8)⦄ ⦃y4 : Int⦄ ⦃S : HS⦄ ⦃p : ((List UInt8)) × HS⦄ ⦃g1 g2 g5 g6 g7 g8 g9 g10 g11 g12 g13 g14 g15 g16 g17 g18 g19 : HV⦄, L0 k n y0 y3 y4 S = some p → HRun Try.prog base W0 β0 18 none [.inLoop c9, .inBlock 0, .code c19] ⟨[(.str y0), g1, g2, (.str y3), (.int .i64 y4), g5, g6, g7, g8, g9, g10, g11, g12, g13, g14, g15, g16, g17, g18, g19], []⟩ S (fun v S1 => v = (.str p.1) ∧ S1 = p.2) := by
  intro n
  induction n with
  | zero => intro _ _ _ _ _ _ _ _ _ _ _ _ _ _ _ _ _ _ _ _ _ _ h; cases h
  | succ n ih =>
    intro y0 y3 y4 S p g1 g2 g5 g6 g7 g8 g9 g10 g11 g12 g13 g14 g15 g16 g17 g18 g19 h
    simp only [L0] at h
    refine hr_inLoop ?_
    refine q_seq e9 ?_
    refine q_seq e10 ?_
    refine q_region e11 rfl ?_
    refine q_op (dst := some 5) rfl (fun _ ho => ok_move ho (.tmp rfl)) ?_
    refine q_op (dst := some 6) rfl (fun _ ho => ok_move ho (.tmp rfl)) ?_
    refine q_op (dst := some 7) rfl (fun _ ho => ok_len_str ho rfl tu9 (.tmp rfl)) ?_
    refine q_op (dst := some 8) rfl (fun _ ho => ok_ibin ho (.tmp rfl) (.tmp rfl) rfl) ?_
    refine hr_region_end ?_
    try dsimp only [HAct.put, List.set_cons_zero, List.set_cons_succ]
    rcases ifc h with ⟨hc1, h⟩ | ⟨hc1, h⟩
    · refine q_cond_t e12 (.tmp rfl) (decide_eq_true hc1) ?_
      refine q_skipc e13 ?_
      refine q_seq e15 ?_
      refine q_block e16 ?_
      refine q_region e17 rfl ?_
      refine q_op (dst := some 11) rfl (fun _ ho => ok_move ho (.tmp rfl)) ?_
      refine q_op (dst := some 12) rfl (fun _ ho => ok_move ho (.tmp rfl)) ?_
      refine q_op (dst := some 13) rfl (fun _ ho => ok_move ho (.tmp rfl)) ?_
      obtain ⟨p2, hp2, h⟩ := bindo h
      refine q_op (dst := some 14) rfl (fun _ ho => ok_index_s ho tu9 (.tmp rfl) (.tmp rfl) hp2) ?_
      try dsimp only [HAct.put, List.set_cons_zero, List.set_cons_succ]
      obtain ⟨p3, hp3, h⟩ := bindo h
      refine q_call (dst := some 15) rfl (.func _) (.cons (.tmp rfl) Evs.nil) (HInv.static rollcallref01_Byte.at_ rollcallref01_Byte.body (rollcallref01_Byte.snd  hp3)) ?_
      rintro _ _ ⟨rfl, rfl⟩
      obtain ⟨p4, hp4, h⟩ := leto h
      refine q_op (dst := some 16) rfl (fun _ ho => ok_buildSlice_s (xs := [(.tmp 15)]) el52 ho rfl rfl (by decide) (.cons (.tmp rfl) Evs.nil) rfl rfl hp4) ?_
      obtain ⟨p5, hp5, h⟩ := bindo h
      refine q_op (dst := some 17) rfl (fun _ ho => ok_str_of_bytes (s := (p4.1)) ho tu52 tu5 tu9 (.tmp rfl) hp5) ?_
      obtain ⟨hg6, h⟩ := gd h
      refine q_op (dst := some 18) rfl (fun _ ho => ok_sadd ho (.tmp rfl) (.tmp rfl) hg6) ?_
      try dsimp only [HAct.put, List.set_cons_zero, List.set_cons_succ]
      refine q_op (dst := some 3) rfl (fun _ ho => ok_assign ho (.tmp rfl)) ?_
      refine hr_region_end ?_
      try dsimp only [HAct.put, List.set_cons_zero, List.set_cons_succ]
      refine hr_inBlock ?_
      refine q_region e18 rfl ?_
      refine q_op (dst := some 9) rfl (fun _ ho => ok_move ho (.tmp rfl)) ?_
      refine q_op (dst := some 10) rfl (fun _ ho => ok_ibin ho (.tmp rfl) (.int _ _) rfl) ?_
      refine q_op (dst := some 4) rfl (fun _ ho => ok_assign ho (.tmp rfl)) ?_
      refine hr_region_end ?_
      try dsimp only [HAct.put, List.set_cons_zero, List.set_cons_succ]
      try dsimp only [HAct.put, List.set_cons_zero, List.set_cons_succ]
      exact ih h
    · refine q_cond_f e12 (.tmp rfl) (decide_eq_false hc1) ?_
      refine q_exit e14 rfl ?_
      refine q_seq e19 ?_
      refine q_region e20 rfl ?_
      refine q_op (dst := some 19) rfl (fun _ ho => ok_move ho (.tmp rfl)) ?_
      refine q_op (dst := some 2) rfl (fun _ ho => ok_assign ho (.tmp rfl)) ?_
      refine hr_region_end ?_
      try dsimp only [HAct.put, List.set_cons_zero, List.set_cons_succ]
      cases h
      exact q_ret e21 at_.at_ rfl (res1 rfl rfl) ⟨rfl, rfl⟩
def f (k : Nat) (x0 : (List UInt8)) (S : HS) : Option (((List UInt8)) × HS) :=
  L0 k k x0 ([] : List UInt8) 0 S
theorem snd {k : Nat} {x0 : (List UInt8)} {S : HS}  {p : ((List UInt8)) × HS} (h : f k x0 S = some p) : HCall Try.prog base W0 β0 18 [(.str x0)] S (fun v S1 => v = (.str p.1) ∧ S1 = p.2) := by
  unfold f at h
  refine HCall.of_run at_.at_ body ?_
  show HRun Try.prog base W0 β0 18 none [.code c0] ⟨[(.str x0), .tup [], .tup [], .tup [], .tup [], .tup [], .tup [], .tup [], .tup [], .tup [], .tup [], .tup [], .tup [], .tup [], .tup [], .tup [], .tup [], .tup [], .tup [], .tup []], []⟩ S _
  refine q_seq e0 ?_
  refine q_region e1 rfl ?_
  refine q_op (dst := some 2) rfl (fun _ ho => ok_assign ho (.str _)) ?_
  refine hr_region_end ?_
  try dsimp only [HAct.put, List.set_cons_zero, List.set_cons_succ]
  refine q_seq e2 ?_
  refine q_region e3 rfl ?_
  refine q_op (dst := some 3) rfl (fun _ ho => ok_assign ho (.str _)) ?_
  refine hr_region_end ?_
  try dsimp only [HAct.put, List.set_cons_zero, List.set_cons_succ]
  refine q_seq e4 ?_
  refine q_seq e5 ?_
  refine q_region e6 rfl ?_
  refine q_op (dst := some 4) rfl (fun _ ho => ok_assign ho (.int _ _)) ?_
  refine hr_region_end ?_
  try dsimp only [HAct.put, List.set_cons_zero, List.set_cons_succ]
  refine q_block e7 ?_
  refine q_loop e8 ?_
  try dsimp only [HAct.put, List.set_cons_zero, List.set_cons_succ]
  exact L0_snd  h
end
end rollcallref01_Text
namespace rollcallref01_Same
abbrev id : Nat := 13
theorem at_ : FnAt Try.prog 13 Try.f13 := ⟨Try.func13, by kernel_rfl⟩
noncomputable def c0 : Code := (Try.f13.body).getD .skip
noncomputable def c1 : Code := match c0 with | .seq x _ => x | _ => .skip
noncomputable def c2 : Code := match c0 with | .seq _ x => x | _ => .skip
noncomputable def c3 : Code := match c2 with | .seq x _ => x | _ => .skip
noncomputable def c4 : Code := match c2 with | .seq _ x => x | _ => .skip
theorem e0 : c0 = .seq c1 c2 := by kernel_rfl
noncomputable def r1 : Array Oper := match c1 with | .region _ x _ => x | _ => #[]
theorem e1 : c1 = .region 0 r1 false := by kernel_rfl
theorem e2 : c2 = .seq c3 c4 := by kernel_rfl
noncomputable def r3 : Array Oper := match c3 with | .region _ x _ => x | _ => #[]
theorem e3 : c3 = .region 1 r3 false := by kernel_rfl
theorem e4 : c4 = .ret := by kernel_rfl
theorem body : Try.f13.body = some c0 := by kernel_rfl
section
variable {base : Nat} {W0 : World} {β0 : Bt}
def f (k : Nat) (x0 : (List UInt8)) (x1 : (List UInt8)) (S : HS) : Option ((Bool) × HS) :=
  (Option.bind (rollcallref01_Text.f k x0 S) fun p1 =>
  (Option.bind (rollcallref01_Text.f k x1 p1.2) fun p2 =>
  some ((decide (p1.1 = p2.1)), p2.2)))
theorem snd {k : Nat} {x0 : (List UInt8)} {x1 : (List UInt8)} {S : HS}  {p : (Bool) × HS} (h : f k x0 x1 S = some p) : HCall Try.prog base W0 β0 13 [(.str x0), (.str x1)] S (fun v S1 => v = (.bool p.1) ∧ S1 = p.2) := by
  unfold f at h
  refine HCall.of_run at_.at_ body ?_
  show HRun Try.prog base W0 β0 13 none [.code c0] ⟨[(.str x0), (.str x1), .tup [], .tup [], .tup [], .tup [], .tup [], .tup [], .tup [], .tup []], []⟩ S _
  refine q_seq e0 ?_
  refine q_region e1 rfl ?_
  refine q_op (dst := some 4) rfl (fun _ ho => ok_assign ho (.bool _)) ?_
  refine hr_region_end ?_
  try dsimp only [HAct.put, List.set_cons_zero, List.set_cons_succ]
  refine q_seq e2 ?_
  refine q_region e3 rfl ?_
  refine q_op (dst := some 5) rfl (fun _ ho => ok_move ho (.tmp rfl)) ?_
  obtain ⟨p1, hp1, h⟩ := bindo h
  refine q_call (dst := some 6) rfl (.func _) (.cons (.tmp rfl) Evs.nil) (HInv.static rollcallref01_Text.at_ rollcallref01_Text.body (rollcallref01_Text.snd  hp1)) ?_
  rintro _ _ ⟨rfl, rfl⟩
  refine q_op (dst := some 7) rfl (fun _ ho => ok_move ho (.tmp rfl)) ?_
  obtain ⟨p2, hp2, h⟩ := bindo h
  refine q_call (dst := some 8) rfl (.func _) (.cons (.tmp rfl) Evs.nil) (HInv.static rollcallref01_Text.at_ rollcallref01_Text.body (rollcallref01_Text.snd  hp2)) ?_
  rintro _ _ ⟨rfl, rfl⟩
  try dsimp only [HAct.put, List.set_cons_zero, List.set_cons_succ]
  refine q_op (dst := some 9) rfl (fun _ ho => ok_sbin ho (.tmp rfl) (.tmp rfl) rfl) ?_
  refine q_op (dst := some 4) rfl (fun _ ho => ok_assign ho (.tmp rfl)) ?_
  refine hr_region_end ?_
  try dsimp only [HAct.put, List.set_cons_zero, List.set_cons_succ]
  cases h
  exact q_ret e4 at_.at_ rfl (res1 rfl rfl) ⟨rfl, rfl⟩
end
end rollcallref01_Same
end Go.Proofs.Ytlmpmnbljpigiaa.X
