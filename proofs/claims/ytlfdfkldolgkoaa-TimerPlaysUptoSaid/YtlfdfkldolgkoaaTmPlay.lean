/- Functions of the program, each as a Lean function over the layer HL: a call answers what the Lean function answers, where it answers. -/
import Derived.Test.YtlfdfkldolgkoaaProg
import Derived.Test.YtlfdfkldolgkoaaHLx
namespace Go.Proofs.Ytlfdfkldolgkoaa.X
open Go.Proofs.Ytlfdfkldolgkoaa.HL
set_option linter.unusedVariables false
set_option linter.unusedSimpArgs false
set_option maxRecDepth 20000
set_option maxHeartbeats 4000000
theorem st60 : StructAt Try.prog 60 [(0, 1), (1, 1)] [(Sl.hv Sl.nil), (.map none)] := structAt_mk (zv := (.agg #[(.slice none 0 0), (.map none)])) (by kernel_rfl) (by kernel_rfl) (fun β => VRels.cons (.slNil none) (VRels.cons (.mapNil) (VRels.nil β)))
theorem tu25 : Try.prog.underlying 25 = some (.pointer 60) := by kernel_rfl
theorem fi60_1 : fieldInfo Try.prog 60 1 = some (1, 57, 1) := by kernel_rfl
theorem sc57 : Scalar Try.prog 57 := ⟨(.map 9 3), by kernel_rfl, trivial⟩
theorem tu9 : Try.prog.underlying 9 = some .string := by kernel_rfl
theorem tu57 : Try.prog.underlying 57 = some (.map 9 3) := by kernel_rfl
theorem zi3 : (Try.prog.info? 3).map (·.zero) = some (some (.int .i64 0)) := by kernel_rfl
theorem tu58 : Try.prog.underlying 58 = some (.slice 63) := by kernel_rfl
theorem tu3 : Try.prog.underlying 3 = some (.int .i64) := by kernel_rfl
theorem tu84 : Try.prog.underlying 84 = some (.int .u64) := by kernel_rfl
theorem sz63 : ∃ q, Try.prog.info? 63 = some q ∧ q.size = 2 := size_mk' (by kernel_rfl)
theorem ia63 : IsAgg Try.prog 63 2 := isAgg_mk2 (by kernel_rfl) (by kernel_rfl)
theorem tu48 : Try.prog.underlying 48 = some (.slice 3) := by kernel_rfl
theorem sz3 : ∃ q, Try.prog.info? 3 = some q ∧ q.size = 1 := size_mk' (by kernel_rfl)
theorem sc3 : Scalar Try.prog 3 := ⟨(.int .i64), by kernel_rfl, trivial⟩
theorem fi63_1 : fieldInfo Try.prog 63 1 = some (1, 3, 1) := by kernel_rfl
theorem fi63_0 : fieldInfo Try.prog 63 0 = some (0, 9, 1) := by kernel_rfl
theorem sc9 : Scalar Try.prog 9 := ⟨.string, by kernel_rfl, trivial⟩
theorem el48 : ElemAt Try.prog 48 3 1 [(.int .i64 0)] := elemAt_mk (zv := (.int .i64 0)) (by_ := 8) (by kernel_rfl) (by kernel_rfl) (by decide) (fun β => VRels.cons (.int _ _) (VRels.nil β)) rfl (by decide) rfl
theorem si63 : SizeIs Try.prog 63 2 24 := sizeIs_mk (by kernel_rfl)
theorem el58 : ElemAt Try.prog 58 63 2 [(.str []), (.int .i64 0)] := elemAt_mk (zv := (.agg #[(.string ⟨#[]⟩), (.int .i64 0)])) (by_ := 24) (by kernel_rfl) (by kernel_rfl) (by decide) (fun β => VRels.cons (.str []) (VRels.cons (.int _ _) (VRels.nil β))) rfl (by decide) rfl
theorem fi60_0 : fieldInfo Try.prog 60 0 = some (0, 58, 1) := by kernel_rfl
theorem sc58 : Scalar Try.prog 58 := ⟨(.slice 63), by kernel_rfl, trivial⟩
theorem st63 : StructAt Try.prog 63 [(0, 1), (1, 1)] [(.str []), (.int .i64 0)] := structAt_mk (zv := (.agg #[(.string ⟨#[]⟩), (.int .i64 0)])) (by kernel_rfl) (by kernel_rfl) (fun β => VRels.cons (.str []) (VRels.cons (.int _ _) (VRels.nil β)))
theorem sz58 : ∃ q, Try.prog.info? 58 = some q ∧ q.size = 1 := size_mk' (by kernel_rfl)
theorem ext41 : ExtAt Try.prog 41 (Extern.SlicesOverlaps.overlaps #[58, 58] #[4]) := ⟨Try.f41, Try.func41, by kernel_rfl, by kernel_rfl, by kernel_rfl, by kernel_rfl⟩
theorem zi63 : (Try.prog.info? 63).map (·.zero) = some (some (.agg #[(.string ⟨#[]⟩), (.int .i64 0)])) := by kernel_rfl
theorem zr63 : ∀ β, VRels β [(.str []), (.int .i64 0)] (Value.cells (.agg #[(.string ⟨#[]⟩), (.int .i64 0)])) := fun β => VRels.cons (.str []) (VRels.cons (.int _ _) (VRels.nil β))
theorem zi58 : (Try.prog.info? 58).map (·.zero) = some (some (.slice none 0 0)) := by kernel_rfl
theorem zr58 : ∀ β, VRels β [(Sl.hv Sl.nil)] (Value.cells (.slice none 0 0)) := fun β => VRels.cons (.slNil none) (VRels.nil β)
theorem zi34 : (Try.prog.info? 34).map (·.zero) = some (some (.slice none 0 0)) := by kernel_rfl
theorem zr34 : ∀ β, VRels β [(Sl.hv Sl.nil)] (Value.cells (.slice none 0 0)) := fun β => VRels.cons (.slNil none) (VRels.nil β)
theorem sc25 : Scalar Try.prog 25 := ⟨(.pointer 60), by kernel_rfl, trivial⟩
theorem sc34 : Scalar Try.prog 34 := ⟨(.slice 9), by kernel_rfl, trivial⟩
theorem el34 : ElemAt Try.prog 34 9 1 [(.str [])] := elemAt_mk (zv := (.string ⟨#[]⟩)) (by_ := 16) (by kernel_rfl) (by kernel_rfl) (by decide) (fun β => VRels.cons (.str []) (VRels.nil β)) rfl (by decide) rfl
theorem tu34 : Try.prog.underlying 34 = some (.slice 9) := by kernel_rfl
theorem sz34 : ∃ q, Try.prog.info? 34 = some q ∧ q.size = 1 := size_mk' (by kernel_rfl)
theorem sz9 : ∃ q, Try.prog.info? 9 = some q ∧ q.size = 1 := size_mk' (by kernel_rfl)
theorem tu22 : Try.prog.underlying 22 = some (.slice 32) := by kernel_rfl
theorem sz32 : ∃ q, Try.prog.info? 32 = some q ∧ q.size = 3 := size_mk' (by kernel_rfl)
theorem fi32_1 : fieldInfo Try.prog 32 1 = some (1, 9, 1) := by kernel_rfl
theorem fi30_0 : fieldInfo Try.prog 30 0 = some (0, 28, 1) := by kernel_rfl
theorem sc28 : Scalar Try.prog 28 := ⟨(.slice 38), by kernel_rfl, trivial⟩
theorem tu28 : Try.prog.underlying 28 = some (.slice 38) := by kernel_rfl
theorem sz38 : ∃ q, Try.prog.info? 38 = some q ∧ q.size = 2 := size_mk' (by kernel_rfl)
theorem fi38_0 : fieldInfo Try.prog 38 0 = some (0, 9, 1) := by kernel_rfl
theorem el28 : ElemAt Try.prog 28 38 2 [(.str []), (.int .i64 0)] := elemAt_mk (zv := (.agg #[(.string ⟨#[]⟩), (.int .i64 0)])) (by_ := 24) (by kernel_rfl) (by kernel_rfl) (by decide) (fun β => VRels.cons (.str []) (VRels.cons (.int _ _) (VRels.nil β))) rfl (by decide) rfl
theorem si38 : SizeIs Try.prog 38 2 24 := sizeIs_mk (by kernel_rfl)
theorem sz28 : ∃ q, Try.prog.info? 28 = some q ∧ q.size = 1 := size_mk' (by kernel_rfl)
theorem fi38_1 : fieldInfo Try.prog 38 1 = some (1, 3, 1) := by kernel_rfl
theorem ia38 : IsAgg Try.prog 38 2 := isAgg_mk2 (by kernel_rfl) (by kernel_rfl)
theorem st38 : StructAt Try.prog 38 [(0, 1), (1, 1)] [(.str []), (.int .i64 0)] := structAt_mk (zv := (.agg #[(.string ⟨#[]⟩), (.int .i64 0)])) (by kernel_rfl) (by kernel_rfl) (fun β => VRels.cons (.str []) (VRels.cons (.int _ _) (VRels.nil β)))
theorem zi4 : (Try.prog.info? 4).map (·.zero) = some (some (.bool false)) := by kernel_rfl
theorem zr4 : ∀ β, VRels β [(.bool false)] (Value.cells (.bool false)) := fun β => VRels.cons (.bool _) (VRels.nil β)
theorem zr3 : ∀ β, VRels β [(.int .i64 0)] (Value.cells (.int .i64 0)) := fun β => VRels.cons (.int _ _) (VRels.nil β)
theorem sz4 : ∃ q, Try.prog.info? 4 = some q ∧ q.size = 1 := size_mk' (by kernel_rfl)
theorem tu67 : Try.prog.underlying 67 = some (.func #[56] #[] false) := by kernel_rfl
theorem sc4 : Scalar Try.prog 4 := ⟨.bool, by kernel_rfl, trivial⟩
theorem st30 : StructAt Try.prog 30 [(0, 1)] [(Sl.hv Sl.nil)] := structAt_mk (zv := (.agg #[(.slice none 0 0)])) (by kernel_rfl) (by kernel_rfl) (fun β => VRels.cons (.slNil none) (VRels.nil β))
theorem ia32 : IsAgg Try.prog 32 3 := isAgg_mk2 (by kernel_rfl) (by kernel_rfl)
theorem zi32 : (Try.prog.info? 32).map (·.zero) = some (some (.agg #[(.int .i64 0), (.string ⟨#[]⟩), (.int .i64 0)])) := by kernel_rfl
theorem zr32 : ∀ β, VRels β [(.int .i64 0), (.str []), (.int .i64 0)] (Value.cells (.agg #[(.int .i64 0), (.string ⟨#[]⟩), (.int .i64 0)])) := fun β => VRels.cons (.int _ _) (VRels.cons (.str []) (VRels.cons (.int _ _) (VRels.nil β)))
theorem fi32_0 : fieldInfo Try.prog 32 0 = some (0, 3, 1) := by kernel_rfl
theorem tu4 : Try.prog.underlying 4 = some .bool := by kernel_rfl
theorem fi32_2 : fieldInfo Try.prog 32 2 = some (2, 3, 1) := by kernel_rfl
namespace timer_New_string
abbrev id : Nat := 8
theorem at_ : FnAt Try.prog 8 Try.f8 := ⟨Try.func8, by kernel_rfl⟩
noncomputable def c0 : Code := (Try.f8.body).getD .skip
noncomputable def c1 : Code := match c0 with | .seq x _ => x | _ => .skip
noncomputable def c2 : Code := match c0 with | .seq _ x => x | _ => .skip
noncomputable def c3 : Code := match c2 with | .seq x _ => x | _ => .skip
noncomputable def c4 : Code := match c2 with | .seq _ x => x | _ => .skip
theorem e0 : c0 = .seq c1 c2 := by kernel_rfl
noncomputable def r1 : Array Oper := match c1 with | .region _ x _ => x | _ => #[]
theorem e1 : c1 = .region 0 r1 false := by kernel_rfl
theorem e2 : c2 = .seq c3 c4 := by kernel_rfl
noncomputable def r3 : Array Oper := match c3 with | .region _ x _ => x | _ => #[]
theorem e3 : c3 = .region 1 r3 false := by kernel_rfl
theorem e4 : c4 = .ret := by kernel_rfl
theorem body : Try.f8.body = some c0 := by kernel_rfl
section
variable {base : Nat} {W0 : World} {β0 : Bt}
def f (S : HS) : Option (((Option HA)) × HS) :=
  (letv (HS.new S (.map [])) fun p1 =>
  (letv (HS.new p1 (.cells 2 [[(Sl.hv Sl.nil), (.map (some S.next))]] true)) fun p2 =>
  some ((some (HA.cell0 p1.next)), p2)))
theorem snd {S : HS}  {p : ((Option HA)) × HS} (h : f S = some p) : HCall Try.prog base W0 β0 8 [] S (fun v S1 => v = (.ptr p.1) ∧ S1 = p.2) := by
  unfold f at h
  refine HCall.of_run at_.at_ body ?_
  show HRun Try.prog base W0 β0 8 none [.code c0] ⟨[.tup [], .tup [], .tup [], .tup []], []⟩ S _
  refine q_seq e0 ?_
  refine q_region e1 rfl ?_
  refine q_op (dst := some 0) rfl (fun _ ho => ok_assign ho (.const fun _ => .ptrNil)) ?_
  refine hr_region_end ?_
  try dsimp only [HAct.put, List.set_cons_zero, List.set_cons_succ]
  refine q_seq e2 ?_
  refine q_region e3 rfl ?_
  obtain ⟨p1, hp1, h⟩ := leto h
  refine q_op (dst := some 1) rfl (fun _ ho => ok_makeMap_e ho hp1) ?_
  refine q_op (dst := some 2) rfl (fun _ ho => ok_build (is := [1]) (xs := [(.tmp 1)]) (r := [(Sl.hv Sl.nil), (.map (some S.next))]) st60 ho rfl rfl (.cons (.tmp rfl) Evs.nil) rfl) ?_
  obtain ⟨p2, hp2, h⟩ := leto h
  refine q_op (dst := some 3) rfl (fun _ ho => ok_box_e ho (.tmp rfl) (Nat.zero_lt_succ _) rfl hp2) ?_
  refine q_op (dst := some 0) rfl (fun _ ho => ok_assign ho (.tmp rfl)) ?_
  refine hr_region_end ?_
  try dsimp only [HAct.put, List.set_cons_zero, List.set_cons_succ]
  cases h
  exact q_ret e4 at_.at_ rfl (res1 rfl rfl) ⟨rfl, rfl⟩
end
end timer_New_string
namespace timer_Table_string_At
abbrev id : Nat := 15
theorem at_ : FnAt Try.prog 15 Try.f15 := ⟨Try.func15, by kernel_rfl⟩
noncomputable def c0 : Code := (Try.f15.body).getD .skip
noncomputable def c1 : Code := match c0 with | .seq x _ => x | _ => .skip
noncomputable def c2 : Code := match c0 with | .seq _ x => x | _ => .skip
noncomputable def c3 : Code := match c2 with | .seq x _ => x | _ => .skip
noncomputable def c4 : Code := match c3 with | .seq x _ => x | _ => .skip
noncomputable def c5 : Code := match c3 with | .seq _ x => x | _ => .skip
noncomputable def c6 : Code := match c5 with | .cond _ x _ => x | _ => .skip
noncomputable def c7 : Code := match c6 with | .seq x _ => x | _ => .skip
noncomputable def c8 : Code := match c6 with | .seq _ x => x | _ => .skip
noncomputable def c9 : Code := match c5 with | .cond _ _ x => x | _ => .skip
noncomputable def c10 : Code := match c2 with | .seq _ x => x | _ => .skip
noncomputable def c11 : Code := match c10 with | .seq x _ => x | _ => .skip
noncomputable def c12 : Code := match c10 with | .seq _ x => x | _ => .skip
noncomputable def c13 : Code := match c12 with | .seq x _ => x | _ => .skip
noncomputable def c14 : Code := match c12 with | .seq _ x => x | _ => .skip
theorem e0 : c0 = .seq c1 c2 := by kernel_rfl
noncomputable def r1 : Array Oper := match c1 with | .region _ x _ => x | _ => #[]
theorem e1 : c1 = .region 0 r1 false := by kernel_rfl
theorem e2 : c2 = .seq c3 c10 := by kernel_rfl
theorem e3 : c3 = .seq c4 c5 := by kernel_rfl
noncomputable def r4 : Array Oper := match c4 with | .region _ x _ => x | _ => #[]
theorem e4 : c4 = .region 1 r4 false := by kernel_rfl
theorem e5 : c5 = .cond (.tmp 9) c6 c9 := by kernel_rfl
theorem e6 : c6 = .seq c7 c8 := by kernel_rfl
noncomputable def r7 : Array Oper := match c7 with | .region _ x _ => x | _ => #[]
theorem e7 : c7 = .region 2 r7 false := by kernel_rfl
theorem e8 : c8 = .ret := by kernel_rfl
theorem e9 : c9 = .skip := by kernel_rfl
theorem e10 : c10 = .seq c11 c12 := by kernel_rfl
noncomputable def r11 : Array Oper := match c11 with | .region _ x _ => x | _ => #[]
theorem e11 : c11 = .region 3 r11 false := by kernel_rfl
theorem e12 : c12 = .seq c13 c14 := by kernel_rfl
noncomputable def r13 : Array Oper := match c13 with | .region _ x _ => x | _ => #[]
theorem e13 : c13 = .region 4 r13 false := by kernel_rfl
theorem e14 : c14 = .ret := by kernel_rfl
theorem body : Try.f15.body = some c0 := by kernel_rfl
section
variable {base : Nat} {W0 : World} {β0 : Bt}
def f (x0 : (Option HA)) (x1 : (List UInt8)) (S : HS) : Option ((Int × Bool) × HS) :=
  (if (Option.isNone x0) = true then
  some ((0, false), S) else
  (Option.bind (x0) fun p2 =>
  (Option.bind (HS.ldM S (HA.fld p2 1)) fun p3 =>
  (Option.bind (HS.look S p3 (.str x1)) fun p4 =>
  (Option.bind (dI .i64 (Option.getD p4 (.int .i64 0))) fun p5 =>
  some ((p5, (Option.isSome p4)), S))))))
theorem snd {x0 : (Option HA)} {x1 : (List UInt8)} {S : HS}  {p : (Int × Bool) × HS} (h : f x0 x1 S = some p) : HCall Try.prog base W0 β0 15 [(.ptr x0), (.str x1)] S (fun v S1 => v = (.tup [(.int .i64 p.1.1), (.bool p.1.2)]) ∧ S1 = p.2) := by
  unfold f at h
  refine HCall.of_run at_.at_ body ?_
  show HRun Try.prog base W0 β0 15 none [.code c0] ⟨[(.ptr x0), (.str x1), .tup [], .tup [], .tup [], .tup [], .tup [], .tup [], .tup [], .tup [], .tup [], .tup [], .tup [], .tup [], .tup [], .tup [], .tup [], .tup [], .tup [], .tup [], .tup []], []⟩ S _
  refine q_seq e0 ?_
  refine q_region e1 rfl ?_
  refine q_op (dst := some 4) rfl (fun _ ho => ok_assign ho (.int _ _)) ?_
  refine q_op (dst := some 5) rfl (fun _ ho => ok_assign ho (.bool _)) ?_
  refine hr_region_end ?_
  try dsimp only [HAct.put, List.set_cons_zero, List.set_cons_succ]
  refine q_seq e2 ?_
  refine q_seq e3 ?_
  refine q_region e4 rfl ?_
  refine q_op (dst := some 8) rfl (fun _ ho => ok_move ho (.tmp rfl)) ?_
  refine q_op (dst := some 9) rfl (fun _ ho => ok_nil_ptr ho tu25 (.tmp rfl) (.inl ⟨rfl, rfl⟩)) ?_
  refine hr_region_end ?_
  try dsimp only [HAct.put, List.set_cons_zero, List.set_cons_succ]
  rcases ifc h with ⟨hc1, h⟩ | ⟨hc1, h⟩
  · refine q_cond_t e5 (.tmp rfl) hc1 ?_
    refine q_seq e6 ?_
    refine q_region e7 rfl ?_
    refine q_op (dst := some 4) rfl (fun _ ho => ok_assign ho (.int _ _)) ?_
    refine q_op (dst := some 5) rfl (fun _ ho => ok_assign ho (.bool _)) ?_
    refine hr_region_end ?_
    try dsimp only [HAct.put, List.set_cons_zero, List.set_cons_succ]
    cases h
    exact q_ret e8 at_.at_ rfl (res2 rfl rfl rfl) ⟨rfl, rfl⟩
  · refine q_cond_f e5 (.tmp rfl) (bfalse hc1) ?_
    refine q_skipc e9 ?_
    refine q_seq e10 ?_
    refine q_region e11 rfl ?_
    refine q_op (dst := some 11) rfl (fun _ ho => ok_move ho (.tmp rfl)) ?_
    obtain ⟨p2, hp2, h⟩ := bindo h
    refine q_op (dst := some 12) rfl (fun _ ho => ok_nilCheck_p ho (.tmp rfl) hp2) ?_
    refine q_op (dst := some 13) rfl (fun _ ho => ok_fieldAddr_s ho fi60_1 (by decide) (.tmp rfl) rfl) ?_
    obtain ⟨p3, hp3, h⟩ := bindo h
    refine q_op (dst := some 14) rfl (fun _ ho => ok_load_s ho sc57 (.tmp rfl) rfl (ldM_out hp3)) ?_
    try dsimp only [HAct.put, List.set_cons_zero, List.set_cons_succ]
    refine q_op (dst := some 15) rfl (fun _ ho => ok_move ho (.tmp rfl)) ?_
    obtain ⟨p4, hp4, h⟩ := bindo h
    obtain ⟨p5, hp5, h⟩ := bindo h
    refine q_op (dst := some 16) rfl (fun _ ho => ok_lookup_ok ho tu57 zi3 (fun β => .int _ _) (keyStr tu9) (.tmp rfl) (.tmp rfl) hp4 (dI_out hp5)) ?_
    refine q_op (dst := some 10) rfl (fun _ ho => ok_move ho (.tmp rfl)) ?_
    refine q_op (dst := some 17) rfl (fun _ ho => ok_extract ho (.tmp rfl) rfl) ?_
    try dsimp only [HAct.put, List.set_cons_zero, List.set_cons_succ]
    refine q_op (dst := some 18) rfl (fun _ ho => ok_extract ho (.tmp rfl) rfl) ?_
    refine q_op (dst := some 6) rfl (fun _ ho => ok_assign ho (.tmp rfl)) ?_
    refine q_op (dst := some 7) rfl (fun _ ho => ok_assign ho (.tmp rfl)) ?_
    refine hr_region_end ?_
    try dsimp only [HAct.put, List.set_cons_zero, List.set_cons_succ]
    refine q_seq e12 ?_
    refine q_region e13 rfl ?_
    refine q_op (dst := some 19) rfl (fun _ ho => ok_move ho (.tmp rfl)) ?_
    refine q_op (dst := some 20) rfl (fun _ ho => ok_move ho (.tmp rfl)) ?_
    refine q_op (dst := some 4) rfl (fun _ ho => ok_assign ho (.tmp rfl)) ?_
    refine q_op (dst := some 5) rfl (fun _ ho => ok_assign ho (.tmp rfl)) ?_
    refine hr_region_end ?_
    try dsimp only [HAct.put, List.set_cons_zero, List.set_cons_succ]
    cases h
    exact q_ret e14 at_.at_ rfl (res2 rfl rfl rfl) ⟨rfl, rfl⟩
end
end timer_Table_string_At
namespace slices_BinarySearchFunc_timer_item_string_timer_item_string_timer_item_string
abbrev id : Nat := 25
theorem at_ : FnAt Try.prog 25 Try.f25 := ⟨Try.func25, by kernel_rfl⟩
noncomputable def c0 : Code := (Try.f25.body).getD .skip
noncomputable def c1 : Code := match c0 with | .seq x _ => x | _ => .skip
noncomputable def c2 : Code := match c0 with | .seq _ x => x | _ => .skip
noncomputable def c3 : Code := match c2 with | .seq x _ => x | _ => .skip
noncomputable def c4 : Code := match c2 with | .seq _ x => x | _ => .skip
noncomputable def c5 : Code := match c4 with | .seq x _ => x | _ => .skip
noncomputable def c6 : Code := match c4 with | .seq _ x => x | _ => .skip
noncomputable def c7 : Code := match c6 with | .seq x _ => x | _ => .skip
noncomputable def c8 : Code := match c7 with | .block _ x => x | _ => .skip
noncomputable def c9 : Code := match c8 with | .loop x => x | _ => .skip
noncomputable def c10 : Code := match c9 with | .seq x _ => x | _ => .skip
noncomputable def c11 : Code := match c10 with | .seq x _ => x | _ => .skip
noncomputable def c12 : Code := match c10 with | .seq _ x => x | _ => .skip
noncomputable def c13 : Code := match c12 with | .cond _ x _ => x | _ => .skip
noncomputable def c14 : Code := match c12 with | .cond _ _ x => x | _ => .skip
noncomputable def c15 : Code := match c9 with | .seq _ x => x | _ => .skip
noncomputable def c16 : Code := match c15 with | .block _ x => x | _ => .skip
noncomputable def c17 : Code := match c16 with | .seq x _ => x | _ => .skip
noncomputable def c18 : Code := match c16 with | .seq _ x => x | _ => .skip
noncomputable def c19 : Code := match c18 with | .seq x _ => x | _ => .skip
noncomputable def c20 : Code := match c18 with | .seq _ x => x | _ => .skip
noncomputable def c21 : Code := match c20 with | .cond _ x _ => x | _ => .skip
noncomputable def c22 : Code := match c20 with | .cond _ _ x => x | _ => .skip
noncomputable def c23 : Code := match c6 with | .seq _ x => x | _ => .skip
noncomputable def c24 : Code := match c23 with | .seq x _ => x | _ => .skip
noncomputable def c25 : Code := match c23 with | .seq _ x => x | _ => .skip
theorem e0 : c0 = .seq c1 c2 := by kernel_rfl
noncomputable def r1 : Array Oper := match c1 with | .region _ x _ => x | _ => #[]
theorem e1 : c1 = .region 0 r1 false := by kernel_rfl
theorem e2 : c2 = .seq c3 c4 := by kernel_rfl
noncomputable def r3 : Array Oper := match c3 with | .region _ x _ => x | _ => #[]
theorem e3 : c3 = .region 1 r3 false := by kernel_rfl
theorem e4 : c4 = .seq c5 c6 := by kernel_rfl
noncomputable def r5 : Array Oper := match c5 with | .region _ x _ => x | _ => #[]
theorem e5 : c5 = .region 2 r5 false := by kernel_rfl
theorem e6 : c6 = .seq c7 c23 := by kernel_rfl
theorem e7 : c7 = .block 0 c8 := by kernel_rfl
theorem e8 : c8 = .loop c9 := by kernel_rfl
theorem e9 : c9 = .seq c10 c15 := by kernel_rfl
theorem e10 : c10 = .seq c11 c12 := by kernel_rfl
noncomputable def r11 : Array Oper := match c11 with | .region _ x _ => x | _ => #[]
theorem e11 : c11 = .region 3 r11 false := by kernel_rfl
theorem e12 : c12 = .cond (.tmp 17) c13 c14 := by kernel_rfl
theorem e13 : c13 = .skip := by kernel_rfl
theorem e14 : c14 = .exit 0 := by kernel_rfl
theorem e15 : c15 = .block 1 c16 := by kernel_rfl
theorem e16 : c16 = .seq c17 c18 := by kernel_rfl
noncomputable def r17 : Array Oper := match c17 with | .region _ x _ => x | _ => #[]
theorem e17 : c17 = .region 4 r17 false := by kernel_rfl
theorem e18 : c18 = .seq c19 c20 := by kernel_rfl
noncomputable def r19 : Array Oper := match c19 with | .region _ x _ => x | _ => #[]
theorem e19 : c19 = .region 5 r19 true := by kernel_rfl
theorem e20 : c20 = .cond (.tmp 31) c21 c22 := by kernel_rfl
noncomputable def r21 : Array Oper := match c21 with | .region _ x _ => x | _ => #[]
theorem e21 : c21 = .region 6 r21 false := by kernel_rfl
noncomputable def r22 : Array Oper := match c22 with | .region _ x _ => x | _ => #[]
theorem e22 : c22 = .region 7 r22 false := by kernel_rfl
theorem e23 : c23 = .seq c24 c25 := by kernel_rfl
noncomputable def r24 : Array Oper := match c24 with | .region _ x _ => x | _ => #[]
theorem e24 : c24 = .region 8 r24 true := by kernel_rfl
theorem e25 : c25 = .ret := by kernel_rfl
theorem body : Try.f25.body = some c0 := by kernel_rfl
section
variable {base : Nat} {W0 : World} {β0 : Bt}
def L0 (D : Dp) (H : Hd) (k : Nat) : Nat → Sl → HV → (Option HA) → Int → Int → Int → HS → Option ((Int × Bool) × HS)
  | 0, _, _, _, _, _, _, _ => none
  | n + 1, y0, y2, y4, y8, y9, y10, S =>
    (if y9 < y10 then
    (Option.bind (HS.idx S y0 (w64 (Int.fdiv (IntKind.wrap .u64 (w64 (y9 + y10))) (2 ^ (min (Int.toNat 1) (IntKind.bits .u64))))) 2) fun p3 =>
    (Option.bind (HS.ldS S (HA.fld p3 0)) fun p4 =>
    (Option.bind (HS.ldI S .i64 (HA.fld p3 1)) fun p5 =>
    (Option.bind (y4) fun p6 =>
    (Option.bind (HS.ldS S (HA.fld p6 0)) fun p7 =>
    (Option.bind (HS.ldI S .i64 (HA.fld p6 1)) fun p8 =>
    (Option.bind (D H y2 [(.agg [(.str p4), (.int .i64 p5)]), (.agg [(.str p7), (.int .i64 p8)])] S) fun p9 =>
    (Option.bind (dI .i64 p9.1) fun p10 =>
    (if p10 < 0 then
    (L0 D H k n) y0 y2 y4 y8 (w64 ((w64 (Int.fdiv (IntKind.wrap .u64 (w64 (y9 + y10))) (2 ^ (min (Int.toNat 1) (IntKind.bits .u64))))) + 1)) y10 p9.2 else
    (L0 D H k n) y0 y2 y4 y8 y9 (w64 (Int.fdiv (IntKind.wrap .u64 (w64 (y9 + y10))) (2 ^ (min (Int.toNat 1) (IntKind.bits .u64))))) p9.2))))))))) else
    (if y9 < y8 then
    (Option.bind (HS.idx S y0 y9 2) fun p14 =>
    (Option.bind (HS.ldS S (HA.fld p14 0)) fun p15 =>
    (Option.bind (HS.ldI S .i64 (HA.fld p14 1)) fun p16 =>
    (Option.bind (y4) fun p17 =>
    (Option.bind (HS.ldS S (HA.fld p17 0)) fun p18 =>
    (Option.bind (HS.ldI S .i64 (HA.fld p17 1)) fun p19 =>
    (Option.bind (D H y2 [(.agg [(.str p15), (.int .i64 p16)]), (.agg [(.str p18), (.int .i64 p19)])] S) fun p20 =>
    (Option.bind (dI .i64 p20.1) fun p21 =>
    some ((y9, (decide (p21 = 0))), p20.2))))))))) else
    some ((y9, false), S)))
theorem L0_snd {D : Dp} {H : Hd} {k : Nat} (hD : DSound Try.prog base W0 D) (hH : HSound Try.prog base W0 β0 H)  : ∀ {n : Nat} ⦃y0 : Sl⦄ ⦃y2 : HV⦄ ⦃y4 : (Option HA)⦄ ⦃y8 : Int⦄ ⦃y9 : Int⦄ ⦃y10 : Int⦄ ⦃S : HS⦄ ⦃p : (Int × Bool) × HS⦄ ⦃g1 g3 g5 g6 g7 g11 g12 g13 g14 g15 g16 g17 g18 g19 g20 g21 g22 g23 g24 g25 g26 g27 g28 g29 g30 g31 g32 g33 g34 g35 g36 g37 g38 g39 g40 g41 g42 g43 g44 g45 g46 g47 g48 : HV⦄, L0 D H k n y0 y2 y4 y8 y9 y10 S = some p → HRun Try.prog base W0 β0 25 none [.inLoop c9, .inBlock 0, .code c23] ⟨[(Sl.hv y0), g1, y2, g3, (.ptr y4), g5, g6, g7, (.int .i64 y8), (.int .i64 y9), (.int .i64 y10), g11, g12, g13, g14, g15, g16, g17, g18, g19, g20, g21, g22, g23, g24, g25, g26, g27, g28, g29, g30, g31, g32, g33, g34, g35, g36, g37, g38, g39, g40, g41, g42, g43, g44, g45, g46, g47, g48], []⟩ S (fun v S1 => v = (.tup [(.int .i64 p.1.1), (.bool p.1.2)]) ∧ S1 = p.2) := by
  intro n
  induction n with
  | zero => intro _ _ _ _ _ _ _ _ _ _ _ _ _ _ _ _ _ _ _ _ _ _ _ _ _ _ _ _ _ _ _ _ _ _ _ _ _ _ _ _ _ _ _ _ _ _ _ _ _ _ _ h; cases h
  | succ n ih =>
    intro y0 y2 y4 y8 y9 y10 S p g1 g3 g5 g6 g7 g11 g12 g13 g14 g15 g16 g17 g18 g19 g20 g21 g22 g23 g24 g25 g26 g27 g28 g29 g30 g31 g32 g33 g34 g35 g36 g37 g38 g39 g40 g41 g42 g43 g44 g45 g46 g47 g48 h
    simp only [L0] at h
    refine hr_inLoop ?_
    refine q_seq e9 ?_
    refine q_seq e10 ?_
    refine q_region e11 rfl ?_
    refine q_op (dst := some 15) rfl (fun _ ho => ok_move ho (.tmp rfl)) ?_
    refine q_op (dst := some 16) rfl (fun _ ho => ok_move ho (.tmp rfl)) ?_
    refine q_op (dst := some 17) rfl (fun _ ho => ok_ibin ho (.tmp rfl) (.tmp rfl) rfl) ?_
    refine hr_region_end ?_
    try dsimp only [HAct.put, List.set_cons_zero, List.set_cons_succ]
    rcases ifc h with ⟨hc2, h⟩ | ⟨hc2, h⟩
    · refine q_cond_t e12 (.tmp rfl) (decide_eq_true hc2) ?_
      refine q_skipc e13 ?_
      refine q_block e15 ?_
      refine q_seq e16 ?_
      refine q_region e17 rfl ?_
      refine q_op (dst := some 18) rfl (fun _ ho => ok_move ho (.tmp rfl)) ?_
      refine q_op (dst := some 19) rfl (fun _ ho => ok_move ho (.tmp rfl)) ?_
      refine q_op (dst := some 20) rfl (fun _ ho => ok_ibin ho (.tmp rfl) (.tmp rfl) rfl) ?_
      refine q_op (dst := some 21) rfl (fun _ ho => ok_conv_int ho tu3 tu84 (.tmp rfl)) ?_
      try dsimp only [HAct.put, List.set_cons_zero, List.set_cons_succ]
      refine q_op (dst := some 22) rfl (fun _ ho => ok_shr ho (.tmp rfl) (.int _ _) (by decide)) ?_
      refine q_op (dst := some 23) rfl (fun _ ho => ok_conv_int ho tu84 tu3 (.tmp rfl)) ?_
      refine q_op (dst := some 11) rfl (fun _ ho => ok_assign ho (.tmp rfl)) ?_
      refine hr_region_end ?_
      try dsimp only [HAct.put, List.set_cons_zero, List.set_cons_succ]
      refine q_seq e18 ?_
      refine x_start (cls := [0, 0, 0, 1, 1, 1, 2, 0]) (rk := [0, 1, 2, 3, 4, 5, 6, 7]) e19 (by kernel_rfl) ?_
      refine x_go (f_op (dst := some 24) (ts := [2]) rfl (by intro _ _ h; cases h) (by kernel_rfl) (fun _ _ ho => ok_move ho (.tmp rfl))) rfl ?_
      refine x_go (f_op (dst := some 25) (ts := [0]) rfl (by intro _ _ h; cases h) (by kernel_rfl) (fun _ _ ho => ok_move ho (.tmp rfl))) rfl ?_
      refine x_go (f_op (dst := some 26) (ts := [11]) rfl (by intro _ _ h; cases h) (by kernel_rfl) (fun _ _ ho => ok_move ho (.tmp rfl))) rfl ?_
      obtain ⟨p3, hp3, h⟩ := bindo h
      refine x_go (r_op (dst := some 27) (ts := [25, 26]) rfl (by intro _ _ h; cases h) (by kernel_rfl) (fun _ ho => ok_indexAddr (s := y0) ho tu58 sz63 (.tmp rfl) (.tmp rfl) hp3)) rfl ?_
      try dsimp only [HAct.put, List.set_cons_zero, List.set_cons_succ]
      obtain ⟨p4, hp4, h⟩ := bindo h
      obtain ⟨p5, hp5, h⟩ := bindo h
      refine x_go (r_op (dst := some 28) (ts := [27]) rfl (by intro _ _ h; cases h) (by kernel_rfl) (fun _ ho => ok_load_a (vs := [(.str p4), (.int .i64 p5)]) ho ia63 (.tmp rfl) rfl ⟨ldS_out hp4, ldI_out hp5, trivial⟩ (by simp))) rfl ?_
      obtain ⟨p6, hp6, h⟩ := bindo h
      obtain ⟨p7, hp7, h⟩ := bindo h
      obtain ⟨p8, hp8, h⟩ := bindo h
      refine x_go (r_op (dst := some 29) (ts := [4]) rfl (by intro _ _ h; cases h) (by kernel_rfl) (fun _ ho => ok_load_a (vs := [(.str p7), (.int .i64 p8)]) ho ia63 (.tmp rfl) hp6 ⟨ldS_out hp7, ldI_out hp8, trivial⟩ (by simp))) rfl ?_
      obtain ⟨p9, hp9, h⟩ := bindo h
      obtain ⟨p10, hp10, h⟩ := bindo h
      have hi12 := (hD _ _ hH _ _ _ _ _ hp9)
      rw [dI_out hp10] at hi12
      refine x_go (e_call (dst := some 30) (ts := [24, 28, 29]) rfl (by kernel_rfl) (.tmp rfl) (.cons (.tmp rfl) (.cons (.tmp rfl) Evs.nil)) hi12) rfl ?_
      refine x_go (f_op (dst := some 31) (ts := [30]) rfl (by intro _ _ h; cases h) (by kernel_rfl) (fun _ _ ho => ok_ibin ho (.tmp rfl) (.int _ _) rfl)) rfl ?_
      refine x_rest rfl ?_
      refine hr_region_end ?_
      try dsimp only [HAct.put, List.set_cons_zero, List.set_cons_succ]
      rcases ifc h with ⟨hc11, h⟩ | ⟨hc11, h⟩
      · refine q_cond_t e20 (.tmp rfl) (decide_eq_true hc11) ?_
        refine q_region e21 rfl ?_
        refine q_op (dst := some 32) rfl (fun _ ho => ok_move ho (.tmp rfl)) ?_
        refine q_op (dst := some 33) rfl (fun _ ho => ok_ibin ho (.tmp rfl) (.int _ _) rfl) ?_
        refine q_op (dst := some 9) rfl (fun _ ho => ok_assign ho (.tmp rfl)) ?_
        refine hr_region_end ?_
        try dsimp only [HAct.put, List.set_cons_zero, List.set_cons_succ]
        refine hr_inBlock ?_
        try dsimp only [HAct.put, List.set_cons_zero, List.set_cons_succ]
        exact ih h
      · refine q_cond_f e20 (.tmp rfl) (decide_eq_false hc11) ?_
        refine q_region e22 rfl ?_
        refine q_op (dst := some 34) rfl (fun _ ho => ok_move ho (.tmp rfl)) ?_
        refine q_op (dst := some 10) rfl (fun _ ho => ok_assign ho (.tmp rfl)) ?_
        refine hr_region_end ?_
        try dsimp only [HAct.put, List.set_cons_zero, List.set_cons_succ]
        refine hr_inBlock ?_
        try dsimp only [HAct.put, List.set_cons_zero, List.set_cons_succ]
        exact ih h
    · refine q_cond_f e12 (.tmp rfl) (decide_eq_false hc2) ?_
      refine q_exit e14 rfl ?_
      refine q_seq e23 ?_
      refine x_start (cls := [0, 0, 0, 0, 0, 0, 0, 0, 1, 1, 1, 2, 0, 0, 0, 0]) (rk := [0, 1, 2, 3, 4, 5, 6, 7, 8, 9, 10, 11, 13, 14, 12, 15]) e24 (by kernel_rfl) ?_
      refine x_go (f_op (dst := some 35) (ts := [9]) rfl (by intro _ _ h; cases h) (by kernel_rfl) (fun _ _ ho => ok_move ho (.tmp rfl))) rfl ?_
      refine x_go (f_op (dst := some 36) (ts := [9]) rfl (by intro _ _ h; cases h) (by kernel_rfl) (fun _ _ ho => ok_move ho (.tmp rfl))) rfl ?_
      refine x_go (f_op (dst := some 37) (ts := [8]) rfl (by intro _ _ h; cases h) (by kernel_rfl) (fun _ _ ho => ok_move ho (.tmp rfl))) rfl ?_
      refine x_go (f_op (dst := some 38) (ts := [36, 37]) rfl (by intro _ _ h; cases h) (by kernel_rfl) (fun _ _ ho => ok_ibin ho (.tmp rfl) (.tmp rfl) rfl)) rfl ?_
      try dsimp only [HAct.put, List.set_cons_zero, List.set_cons_succ]
      refine x_go (f_op (dst := some 39) (ts := [38]) rfl (by intro _ _ h; cases h) (by kernel_rfl) (fun _ _ ho => ok_move ho (.tmp rfl))) rfl ?_
      rcases ifc h with ⟨hc13, h⟩ | ⟨hc13, h⟩
      · refine x_go (f_op_g (dst := some 40) (t := 39) (ts := [2, 39]) rfl (by intro _ _ h; cases h) (by kernel_rfl) rfl rfl (decide_eq_true hc13) (fun _ _ ho => ok_move ho (.tmp rfl))) rfl ?_
        refine x_go (f_op_g (dst := some 41) (t := 39) (ts := [0, 39]) rfl (by intro _ _ h; cases h) (by kernel_rfl) rfl rfl (decide_eq_true hc13) (fun _ _ ho => ok_move ho (.tmp rfl))) rfl ?_
        refine x_go (f_op_g (dst := some 42) (t := 39) (ts := [9, 39]) rfl (by intro _ _ h; cases h) (by kernel_rfl) rfl rfl (decide_eq_true hc13) (fun _ _ ho => ok_move ho (.tmp rfl))) rfl ?_
        try dsimp only [HAct.put, List.set_cons_zero, List.set_cons_succ]
        obtain ⟨p14, hp14, h⟩ := bindo h
        refine x_go (r_op_g (dst := some 43) (t := 39) (ts := [41, 42, 39]) rfl (by intro _ _ h; cases h) (by kernel_rfl) rfl rfl (decide_eq_true hc13) (fun _ ho => ok_indexAddr (s := y0) ho tu58 sz63 (.tmp rfl) (.tmp rfl) hp14)) rfl ?_
        obtain ⟨p15, hp15, h⟩ := bindo h
        obtain ⟨p16, hp16, h⟩ := bindo h
        refine x_go (r_op_g (dst := some 44) (t := 39) (ts := [43, 39]) rfl (by intro _ _ h; cases h) (by kernel_rfl) rfl rfl (decide_eq_true hc13) (fun _ ho => ok_load_a (vs := [(.str p15), (.int .i64 p16)]) ho ia63 (.tmp rfl) rfl ⟨ldS_out hp15, ldI_out hp16, trivial⟩ (by simp))) rfl ?_
        obtain ⟨p17, hp17, h⟩ := bindo h
        obtain ⟨p18, hp18, h⟩ := bindo h
        obtain ⟨p19, hp19, h⟩ := bindo h
        refine x_go (r_op_g (dst := some 45) (t := 39) (ts := [4, 39]) rfl (by intro _ _ h; cases h) (by kernel_rfl) rfl rfl (decide_eq_true hc13) (fun _ ho => ok_load_a (vs := [(.str p18), (.int .i64 p19)]) ho ia63 (.tmp rfl) hp17 ⟨ldS_out hp18, ldI_out hp19, trivial⟩ (by simp))) rfl ?_
        obtain ⟨p20, hp20, h⟩ := bindo h
        obtain ⟨p21, hp21, h⟩ := bindo h
        have hi22 := (hD _ _ hH _ _ _ _ _ hp20)
        rw [dI_out hp21] at hi22
        refine x_go (e_call_g (dst := some 46) (t := 39) (ts := [40, 44, 45, 39]) rfl (by kernel_rfl) rfl rfl (decide_eq_true hc13) (.tmp rfl) (.cons (.tmp rfl) (.cons (.tmp rfl) Evs.nil)) hi22) rfl ?_
        try dsimp only [HAct.put, List.set_cons_zero, List.set_cons_succ]
        refine x_go (f_op_g (dst := some 47) (t := 39) (ts := [46, 39]) rfl (by intro _ _ h; cases h) (by kernel_rfl) rfl rfl (decide_eq_true hc13) (fun _ _ ho => ok_ibin ho (.tmp rfl) (.int _ _) rfl)) rfl ?_
        refine x_go (f_op (dst := some 48) (ts := [39, 47]) rfl (by intro _ _ h; cases h) (by kernel_rfl) (fun _ _ ho => ok_pick_tt ho (.tmp rfl) (decide_eq_true hc13) (.tmp rfl))) rfl ?_
        refine x_go (f_op (dst := some 6) (ts := [35]) rfl (by intro _ _ h; cases h) (by kernel_rfl) (fun _ _ ho => ok_assign ho (.tmp rfl))) rfl ?_
        refine x_go (f_op (dst := some 7) (ts := [48]) rfl (by intro _ _ h; cases h) (by kernel_rfl) (fun _ _ ho => ok_assign ho (.tmp rfl))) rfl ?_
        refine x_rest rfl ?_
        refine hr_region_end ?_
        try dsimp only [HAct.put, List.set_cons_zero, List.set_cons_succ]
        cases h
        exact q_ret e25 at_.at_ rfl (res2 rfl rfl rfl) ⟨rfl, rfl⟩
      · refine x_go (f_skip (dst := some 40) (t := 39) (ts := [2, 39]) rfl (by kernel_rfl) rfl rfl (decide_eq_false hc13)) rfl ?_
        refine x_go (f_skip (dst := some 41) (t := 39) (ts := [0, 39]) rfl (by kernel_rfl) rfl rfl (decide_eq_false hc13)) rfl ?_
        refine x_go (f_skip (dst := some 42) (t := 39) (ts := [9, 39]) rfl (by kernel_rfl) rfl rfl (decide_eq_false hc13)) rfl ?_
        try dsimp only [HAct.put, List.set_cons_zero, List.set_cons_succ]
        refine x_go (r_skip (dst := some 43) (t := 39) (ts := [41, 42, 39]) rfl (by kernel_rfl) rfl rfl (decide_eq_false hc13)) rfl ?_
        refine x_go (r_skip (dst := some 44) (t := 39) (ts := [43, 39]) rfl (by kernel_rfl) rfl rfl (decide_eq_false hc13)) rfl ?_
        refine x_go (r_skip (dst := some 45) (t := 39) (ts := [4, 39]) rfl (by kernel_rfl) rfl rfl (decide_eq_false hc13)) rfl ?_
        refine x_go (e_skip (dst := some 46) (t := 39) (ts := [40, 44, 45, 39]) rfl (by kernel_rfl) rfl rfl (decide_eq_false hc13)) rfl ?_
        try dsimp only [HAct.put, List.set_cons_zero, List.set_cons_succ]
        refine x_go (f_skip (dst := some 47) (t := 39) (ts := [46, 39]) rfl (by kernel_rfl) rfl rfl (decide_eq_false hc13)) rfl ?_
        refine x_go (f_op (dst := some 48) (ts := [39, 47]) rfl (by intro _ _ h; cases h) (by kernel_rfl) (fun _ _ ho => ok_pick_ff ho (.tmp rfl) (decide_eq_false hc13) (.bool _))) rfl ?_
        refine x_go (f_op (dst := some 6) (ts := [35]) rfl (by intro _ _ h; cases h) (by kernel_rfl) (fun _ _ ho => ok_assign ho (.tmp rfl))) rfl ?_
        refine x_go (f_op (dst := some 7) (ts := [48]) rfl (by intro _ _ h; cases h) (by kernel_rfl) (fun _ _ ho => ok_assign ho (.tmp rfl))) rfl ?_
        refine x_rest rfl ?_
        refine hr_region_end ?_
        try dsimp only [HAct.put, List.set_cons_zero, List.set_cons_succ]
        cases h
        exact q_ret e25 at_.at_ rfl (res2 rfl rfl rfl) ⟨rfl, rfl⟩
def f (D : Dp) (H : Hd) (k : Nat) (x0 : Sl) (x1_0 : (List UInt8)) (x1_1 : Int) (x2 : HV) (S : HS) : Option ((Int × Bool) × HS) :=
  (letv (HS.new S (.cells 2 [[(.str x1_0), (.int .i64 x1_1)]] true)) fun p1 =>
  L0 D H k k x0 x2 (some (HA.cell0 S.next)) (Sl.len x0 : Int) 0 (Sl.len x0 : Int) p1)
theorem snd {D : Dp} {H : Hd} {k : Nat} {x0 : Sl} {x1_0 : (List UInt8)} {x1_1 : Int} {x2 : HV} {S : HS} (hD : DSound Try.prog base W0 D) (hH : HSound Try.prog base W0 β0 H)  {p : (Int × Bool) × HS} (h : f D H k x0 x1_0 x1_1 x2 S = some p) : HCall Try.prog base W0 β0 25 [(Sl.hv x0), (.agg [(.str x1_0), (.int .i64 x1_1)]), x2] S (fun v S1 => v = (.tup [(.int .i64 p.1.1), (.bool p.1.2)]) ∧ S1 = p.2) := by
  unfold f at h
  refine HCall.of_run at_.at_ body ?_
  show HRun Try.prog base W0 β0 25 none [.code c0] ⟨[(Sl.hv x0), (.agg [(.str x1_0), (.int .i64 x1_1)]), x2, .tup [], .tup [], .tup [], .tup [], .tup [], .tup [], .tup [], .tup [], .tup [], .tup [], .tup [], .tup [], .tup [], .tup [], .tup [], .tup [], .tup [], .tup [], .tup [], .tup [], .tup [], .tup [], .tup [], .tup [], .tup [], .tup [], .tup [], .tup [], .tup [], .tup [], .tup [], .tup [], .tup [], .tup [], .tup [], .tup [], .tup [], .tup [], .tup [], .tup [], .tup [], .tup [], .tup [], .tup [], .tup [], .tup []], []⟩ S _
  refine q_seq e0 ?_
  refine q_region e1 rfl ?_
  obtain ⟨p1, hp1, h⟩ := leto h
  refine q_op (dst := some 4) rfl (fun _ ho => ok_box_e ho (.tmp rfl) (Nat.zero_lt_succ _) rfl hp1) ?_
  refine q_op (dst := some 6) rfl (fun _ ho => ok_assign ho (.int _ _)) ?_
  refine q_op (dst := some 7) rfl (fun _ ho => ok_assign ho (.bool _)) ?_
  refine hr_region_end ?_
  try dsimp only [HAct.put, List.set_cons_zero, List.set_cons_succ]
  refine q_seq e2 ?_
  refine q_region e3 rfl ?_
  refine q_op (dst := some 12) rfl (fun _ ho => ok_move ho (.tmp rfl)) ?_
  refine q_op (dst := some 13) rfl (fun _ ho => ok_len_sl (q := Sl.a x0) (n := Sl.len x0) (z := Sl.cap x0) ho rfl tu58 (.tmp rfl)) ?_
  refine q_op (dst := some 8) rfl (fun _ ho => ok_assign ho (.tmp rfl)) ?_
  refine hr_region_end ?_
  try dsimp only [HAct.put, List.set_cons_zero, List.set_cons_succ]
  refine q_seq e4 ?_
  refine q_region e5 rfl ?_
  refine q_op (dst := some 14) rfl (fun _ ho => ok_move ho (.tmp rfl)) ?_
  refine q_op (dst := some 9) rfl (fun _ ho => ok_assign ho (.int _ _)) ?_
  refine q_op (dst := some 10) rfl (fun _ ho => ok_assign ho (.tmp rfl)) ?_
  refine hr_region_end ?_
  try dsimp only [HAct.put, List.set_cons_zero, List.set_cons_succ]
  refine q_seq e6 ?_
  refine q_block e7 ?_
  refine q_loop e8 ?_
  try dsimp only [HAct.put, List.set_cons_zero, List.set_cons_succ]
  exact L0_snd hD hH h
end
end slices_BinarySearchFunc_timer_item_string_timer_item_string_timer_item_string
namespace cmp_isNaN_int
abbrev id : Nat := 49
theorem at_ : FnAt Try.prog 49 Try.f49 := ⟨Try.func49, by kernel_rfl⟩
noncomputable def c0 : Code := (Try.f49.body).getD .skip
noncomputable def c1 : Code := match c0 with | .seq x _ => x | _ => .skip
noncomputable def c2 : Code := match c0 with | .seq _ x => x | _ => .skip
noncomputable def c3 : Code := match c2 with | .seq x _ => x | _ => .skip
noncomputable def c4 : Code := match c2 with | .seq _ x => x | _ => .skip
theorem e0 : c0 = .seq c1 c2 := by kernel_rfl
noncomputable def r1 : Array Oper := match c1 with | .region _ x _ => x | _ => #[]
theorem e1 : c1 = .region 0 r1 false := by kernel_rfl
theorem e2 : c2 = .seq c3 c4 := by kernel_rfl
noncomputable def r3 : Array Oper := match c3 with | .region _ x _ => x | _ => #[]
theorem e3 : c3 = .region 1 r3 false := by kernel_rfl
theorem e4 : c4 = .ret := by kernel_rfl
theorem body : Try.f49.body = some c0 := by kernel_rfl
section
variable {base : Nat} {W0 : World} {β0 : Bt}
def f (x0 : Int) : Option (Bool) :=
  some (!decide (x0 = x0))
theorem snd {x0 : Int} {S : HS}  {p : Bool} (h : f x0 = some p) : HCall Try.prog base W0 β0 49 [(.int .i64 x0)] S (fun v S1 => v = (.bool p) ∧ S1 = S) := by
  unfold f at h
  refine HCall.of_run at_.at_ body ?_
  show HRun Try.prog base W0 β0 49 none [.code c0] ⟨[(.int .i64 x0), .tup [], .tup [], .tup [], .tup [], .tup []], []⟩ S _
  refine q_seq e0 ?_
  refine q_region e1 rfl ?_
  refine q_op (dst := some 2) rfl (fun _ ho => ok_assign ho (.bool _)) ?_
  refine hr_region_end ?_
  try dsimp only [HAct.put, List.set_cons_zero, List.set_cons_succ]
  refine q_seq e2 ?_
  refine q_region e3 rfl ?_
  refine q_op (dst := some 3) rfl (fun _ ho => ok_move ho (.tmp rfl)) ?_
  refine q_op (dst := some 4) rfl (fun _ ho => ok_move ho (.tmp rfl)) ?_
  refine q_op (dst := some 5) rfl (fun _ ho => ok_ibin ho (.tmp rfl) (.tmp rfl) rfl) ?_
  refine q_op (dst := some 2) rfl (fun _ ho => ok_assign ho (.tmp rfl)) ?_
  refine hr_region_end ?_
  try dsimp only [HAct.put, List.set_cons_zero, List.set_cons_succ]
  cases h
  exact q_ret e4 at_.at_ rfl (res1 rfl rfl) ⟨rfl, rfl⟩
end
end cmp_isNaN_int
namespace cmp_Compare_int
abbrev id : Nat := 37
theorem at_ : FnAt Try.prog 37 Try.f37 := ⟨Try.func37, by kernel_rfl⟩
noncomputable def c0 : Code := (Try.f37.body).getD .skip
noncomputable def c1 : Code := match c0 with | .seq x _ => x | _ => .skip
noncomputable def c2 : Code := match c0 with | .seq _ x => x | _ => .skip
noncomputable def c3 : Code := match c2 with | .seq x _ => x | _ => .skip
noncomputable def c4 : Code := match c2 with | .seq _ x => x | _ => .skip
noncomputable def c5 : Code := match c4 with | .seq x _ => x | _ => .skip
noncomputable def c6 : Code := match c4 with | .seq _ x => x | _ => .skip
noncomputable def c7 : Code := match c6 with | .seq x _ => x | _ => .skip
noncomputable def c8 : Code := match c7 with | .seq x _ => x | _ => .skip
noncomputable def c9 : Code := match c7 with | .seq _ x => x | _ => .skip
noncomputable def c10 : Code := match c9 with | .cond _ x _ => x | _ => .skip
noncomputable def c11 : Code := match c10 with | .seq x _ => x | _ => .skip
noncomputable def c12 : Code := match c11 with | .seq x _ => x | _ => .skip
noncomputable def c13 : Code := match c11 with | .seq _ x => x | _ => .skip
noncomputable def c14 : Code := match c13 with | .cond _ x _ => x | _ => .skip
noncomputable def c15 : Code := match c14 with | .seq x _ => x | _ => .skip
noncomputable def c16 : Code := match c14 with | .seq _ x => x | _ => .skip
noncomputable def c17 : Code := match c13 with | .cond _ _ x => x | _ => .skip
noncomputable def c18 : Code := match c10 with | .seq _ x => x | _ => .skip
noncomputable def c19 : Code := match c18 with | .seq x _ => x | _ => .skip
noncomputable def c20 : Code := match c18 with | .seq _ x => x | _ => .skip
noncomputable def c21 : Code := match c9 with | .cond _ _ x => x | _ => .skip
noncomputable def c22 : Code := match c6 with | .seq _ x => x | _ => .skip
noncomputable def c23 : Code := match c22 with | .seq x _ => x | _ => .skip
noncomputable def c24 : Code := match c23 with | .seq x _ => x | _ => .skip
noncomputable def c25 : Code := match c23 with | .seq _ x => x | _ => .skip
noncomputable def c26 : Code := match c25 with | .cond _ x _ => x | _ => .skip
noncomputable def c27 : Code := match c26 with | .seq x _ => x | _ => .skip
noncomputable def c28 : Code := match c26 with | .seq _ x => x | _ => .skip
noncomputable def c29 : Code := match c25 with | .cond _ _ x => x | _ => .skip
noncomputable def c30 : Code := match c22 with | .seq _ x => x | _ => .skip
noncomputable def c31 : Code := match c30 with | .seq x _ => x | _ => .skip
noncomputable def c32 : Code := match c31 with | .seq x _ => x | _ => .skip
noncomputable def c33 : Code := match c31 with | .seq _ x => x | _ => .skip
noncomputable def c34 : Code := match c33 with | .cond _ x _ => x | _ => .skip
noncomputable def c35 : Code := match c34 with | .seq x _ => x | _ => .skip
noncomputable def c36 : Code := match c34 with | .seq _ x => x | _ => .skip
noncomputable def c37 : Code := match c33 with | .cond _ _ x => x | _ => .skip
noncomputable def c38 : Code := match c30 with | .seq _ x => x | _ => .skip
noncomputable def c39 : Code := match c38 with | .seq x _ => x | _ => .skip
noncomputable def c40 : Code := match c39 with | .seq x _ => x | _ => .skip
noncomputable def c41 : Code := match c39 with | .seq _ x => x | _ => .skip
noncomputable def c42 : Code := match c41 with | .cond _ x _ => x | _ => .skip
noncomputable def c43 : Code := match c42 with | .seq x _ => x | _ => .skip
noncomputable def c44 : Code := match c42 with | .seq _ x => x | _ => .skip
noncomputable def c45 : Code := match c41 with | .cond _ _ x => x | _ => .skip
noncomputable def c46 : Code := match c38 with | .seq _ x => x | _ => .skip
noncomputable def c47 : Code := match c46 with | .seq x _ => x | _ => .skip
noncomputable def c48 : Code := match c46 with | .seq _ x => x | _ => .skip
theorem e0 : c0 = .seq c1 c2 := by kernel_rfl
noncomputable def r1 : Array Oper := match c1 with | .region _ x _ => x | _ => #[]
theorem e1 : c1 = .region 0 r1 false := by kernel_rfl
theorem e2 : c2 = .seq c3 c4 := by kernel_rfl
noncomputable def r3 : Array Oper := match c3 with | .region _ x _ => x | _ => #[]
theorem e3 : c3 = .region 1 r3 false := by kernel_rfl
theorem e4 : c4 = .seq c5 c6 := by kernel_rfl
noncomputable def r5 : Array Oper := match c5 with | .region _ x _ => x | _ => #[]
theorem e5 : c5 = .region 2 r5 false := by kernel_rfl
theorem e6 : c6 = .seq c7 c22 := by kernel_rfl
theorem e7 : c7 = .seq c8 c9 := by kernel_rfl
noncomputable def r8 : Array Oper := match c8 with | .region _ x _ => x | _ => #[]
theorem e8 : c8 = .region 3 r8 false := by kernel_rfl
theorem e9 : c9 = .cond (.tmp 11) c10 c21 := by kernel_rfl
theorem e10 : c10 = .seq c11 c18 := by kernel_rfl
theorem e11 : c11 = .seq c12 c13 := by kernel_rfl
noncomputable def r12 : Array Oper := match c12 with | .region _ x _ => x | _ => #[]
theorem e12 : c12 = .region 4 r12 false := by kernel_rfl
theorem e13 : c13 = .cond (.tmp 12) c14 c17 := by kernel_rfl
theorem e14 : c14 = .seq c15 c16 := by kernel_rfl
noncomputable def r15 : Array Oper := match c15 with | .region _ x _ => x | _ => #[]
theorem e15 : c15 = .region 5 r15 false := by kernel_rfl
theorem e16 : c16 = .ret := by kernel_rfl
theorem e17 : c17 = .skip := by kernel_rfl
theorem e18 : c18 = .seq c19 c20 := by kernel_rfl
noncomputable def r19 : Array Oper := match c19 with | .region _ x _ => x | _ => #[]
theorem e19 : c19 = .region 6 r19 false := by kernel_rfl
theorem e20 : c20 = .ret := by kernel_rfl
theorem e21 : c21 = .skip := by kernel_rfl
theorem e22 : c22 = .seq c23 c30 := by kernel_rfl
theorem e23 : c23 = .seq c24 c25 := by kernel_rfl
noncomputable def r24 : Array Oper := match c24 with | .region _ x _ => x | _ => #[]
theorem e24 : c24 = .region 7 r24 false := by kernel_rfl
theorem e25 : c25 = .cond (.tmp 13) c26 c29 := by kernel_rfl
theorem e26 : c26 = .seq c27 c28 := by kernel_rfl
noncomputable def r27 : Array Oper := match c27 with | .region _ x _ => x | _ => #[]
theorem e27 : c27 = .region 8 r27 false := by kernel_rfl
theorem e28 : c28 = .ret := by kernel_rfl
theorem e29 : c29 = .skip := by kernel_rfl
theorem e30 : c30 = .seq c31 c38 := by kernel_rfl
theorem e31 : c31 = .seq c32 c33 := by kernel_rfl
noncomputable def r32 : Array Oper := match c32 with | .region _ x _ => x | _ => #[]
theorem e32 : c32 = .region 9 r32 false := by kernel_rfl
theorem e33 : c33 = .cond (.tmp 16) c34 c37 := by kernel_rfl
theorem e34 : c34 = .seq c35 c36 := by kernel_rfl
noncomputable def r35 : Array Oper := match c35 with | .region _ x _ => x | _ => #[]
theorem e35 : c35 = .region 10 r35 false := by kernel_rfl
theorem e36 : c36 = .ret := by kernel_rfl
theorem e37 : c37 = .skip := by kernel_rfl
theorem e38 : c38 = .seq c39 c46 := by kernel_rfl
theorem e39 : c39 = .seq c40 c41 := by kernel_rfl
noncomputable def r40 : Array Oper := match c40 with | .region _ x _ => x | _ => #[]
theorem e40 : c40 = .region 11 r40 false := by kernel_rfl
theorem e41 : c41 = .cond (.tmp 19) c42 c45 := by kernel_rfl
theorem e42 : c42 = .seq c43 c44 := by kernel_rfl
noncomputable def r43 : Array Oper := match c43 with | .region _ x _ => x | _ => #[]
theorem e43 : c43 = .region 12 r43 false := by kernel_rfl
theorem e44 : c44 = .ret := by kernel_rfl
theorem e45 : c45 = .skip := by kernel_rfl
theorem e46 : c46 = .seq c47 c48 := by kernel_rfl
noncomputable def r47 : Array Oper := match c47 with | .region _ x _ => x | _ => #[]
theorem e47 : c47 = .region 13 r47 false := by kernel_rfl
theorem e48 : c48 = .ret := by kernel_rfl
theorem body : Try.f37.body = some c0 := by kernel_rfl
section
variable {base : Nat} {W0 : World} {β0 : Bt}
def f (x0 : Int) (x1 : Int) : Option (Int) :=
  (Option.bind (cmp_isNaN_int.f x0) fun p1 =>
  (Option.bind (cmp_isNaN_int.f x1) fun p2 =>
  (if p1 = true then
  (if p2 = true then
  some 0 else
  some (-1)) else
  (if p2 = true then
  some 1 else
  (if x0 < x1 then
  some (-1) else
  (if x0 > x1 then
  some 1 else
  some 0))))))
theorem snd {x0 : Int} {x1 : Int} {S : HS}  {p : Int} (h : f x0 x1 = some p) : HCall Try.prog base W0 β0 37 [(.int .i64 x0), (.int .i64 x1)] S (fun v S1 => v = (.int .i64 p) ∧ S1 = S) := by
  unfold f at h
  refine HCall.of_run at_.at_ body ?_
  show HRun Try.prog base W0 β0 37 none [.code c0] ⟨[(.int .i64 x0), (.int .i64 x1), .tup [], .tup [], .tup [], .tup [], .tup [], .tup [], .tup [], .tup [], .tup [], .tup [], .tup [], .tup [], .tup [], .tup [], .tup [], .tup [], .tup [], .tup []], []⟩ S _
  refine q_seq e0 ?_
  refine q_region e1 rfl ?_
  refine q_op (dst := some 4) rfl (fun _ ho => ok_assign ho (.int _ _)) ?_
  refine hr_region_end ?_
  try dsimp only [HAct.put, List.set_cons_zero, List.set_cons_succ]
  refine q_seq e2 ?_
  refine q_region e3 rfl ?_
  refine q_op (dst := some 7) rfl (fun _ ho => ok_move ho (.tmp rfl)) ?_
  obtain ⟨p1, hp1, h⟩ := bindo h
  refine q_call (dst := some 8) rfl (.func _) (.cons (.tmp rfl) Evs.nil) (HInv.static cmp_isNaN_int.at_ cmp_isNaN_int.body (cmp_isNaN_int.snd  hp1)) ?_
  rintro _ _ ⟨rfl, rfl⟩
  refine q_op (dst := some 5) rfl (fun _ ho => ok_assign ho (.tmp rfl)) ?_
  refine hr_region_end ?_
  try dsimp only [HAct.put, List.set_cons_zero, List.set_cons_succ]
  refine q_seq e4 ?_
  refine q_region e5 rfl ?_
  refine q_op (dst := some 9) rfl (fun _ ho => ok_move ho (.tmp rfl)) ?_
  obtain ⟨p2, hp2, h⟩ := bindo h
  refine q_call (dst := some 10) rfl (.func _) (.cons (.tmp rfl) Evs.nil) (HInv.static cmp_isNaN_int.at_ cmp_isNaN_int.body (cmp_isNaN_int.snd  hp2)) ?_
  rintro _ _ ⟨rfl, rfl⟩
  refine q_op (dst := some 6) rfl (fun _ ho => ok_assign ho (.tmp rfl)) ?_
  refine hr_region_end ?_
  try dsimp only [HAct.put, List.set_cons_zero, List.set_cons_succ]
  refine q_seq e6 ?_
  refine q_seq e7 ?_
  refine q_region e8 rfl ?_
  refine q_op (dst := some 11) rfl (fun _ ho => ok_move ho (.tmp rfl)) ?_
  refine hr_region_end ?_
  try dsimp only [HAct.put, List.set_cons_zero, List.set_cons_succ]
  rcases ifc h with ⟨hc3, h⟩ | ⟨hc3, h⟩
  · refine q_cond_t e9 (.tmp rfl) hc3 ?_
    refine q_seq e10 ?_
    refine q_seq e11 ?_
    refine q_region e12 rfl ?_
    refine q_op (dst := some 12) rfl (fun _ ho => ok_move ho (.tmp rfl)) ?_
    refine hr_region_end ?_
    try dsimp only [HAct.put, List.set_cons_zero, List.set_cons_succ]
    rcases ifc h with ⟨hc4, h⟩ | ⟨hc4, h⟩
    · refine q_cond_t e13 (.tmp rfl) hc4 ?_
      refine q_seq e14 ?_
      refine q_region e15 rfl ?_
      refine q_op (dst := some 4) rfl (fun _ ho => ok_assign ho (.int _ _)) ?_
      refine hr_region_end ?_
      try dsimp only [HAct.put, List.set_cons_zero, List.set_cons_succ]
      cases h
      exact q_ret e16 at_.at_ rfl (res1 rfl rfl) ⟨rfl, rfl⟩
    · refine q_cond_f e13 (.tmp rfl) (bfalse hc4) ?_
      refine q_skipc e17 ?_
      refine q_seq e18 ?_
      refine q_region e19 rfl ?_
      refine q_op (dst := some 4) rfl (fun _ ho => ok_assign ho (.int _ _)) ?_
      refine hr_region_end ?_
      try dsimp only [HAct.put, List.set_cons_zero, List.set_cons_succ]
      cases h
      exact q_ret e20 at_.at_ rfl (res1 rfl rfl) ⟨rfl, rfl⟩
  · refine q_cond_f e9 (.tmp rfl) (bfalse hc3) ?_
    refine q_skipc e21 ?_
    refine q_seq e22 ?_
    refine q_seq e23 ?_
    refine q_region e24 rfl ?_
    refine q_op (dst := some 13) rfl (fun _ ho => ok_move ho (.tmp rfl)) ?_
    refine hr_region_end ?_
    try dsimp only [HAct.put, List.set_cons_zero, List.set_cons_succ]
    rcases ifc h with ⟨hc5, h⟩ | ⟨hc5, h⟩
    · refine q_cond_t e25 (.tmp rfl) hc5 ?_
      refine q_seq e26 ?_
      refine q_region e27 rfl ?_
      refine q_op (dst := some 4) rfl (fun _ ho => ok_assign ho (.int _ _)) ?_
      refine hr_region_end ?_
      try dsimp only [HAct.put, List.set_cons_zero, List.set_cons_succ]
      cases h
      exact q_ret e28 at_.at_ rfl (res1 rfl rfl) ⟨rfl, rfl⟩
    · refine q_cond_f e25 (.tmp rfl) (bfalse hc5) ?_
      refine q_skipc e29 ?_
      refine q_seq e30 ?_
      refine q_seq e31 ?_
      refine q_region e32 rfl ?_
      refine q_op (dst := some 14) rfl (fun _ ho => ok_move ho (.tmp rfl)) ?_
      refine q_op (dst := some 15) rfl (fun _ ho => ok_move ho (.tmp rfl)) ?_
      refine q_op (dst := some 16) rfl (fun _ ho => ok_ibin ho (.tmp rfl) (.tmp rfl) rfl) ?_
      refine hr_region_end ?_
      try dsimp only [HAct.put, List.set_cons_zero, List.set_cons_succ]
      rcases ifc h with ⟨hc6, h⟩ | ⟨hc6, h⟩
      · refine q_cond_t e33 (.tmp rfl) (decide_eq_true hc6) ?_
        refine q_seq e34 ?_
        refine q_region e35 rfl ?_
        refine q_op (dst := some 4) rfl (fun _ ho => ok_assign ho (.int _ _)) ?_
        refine hr_region_end ?_
        try dsimp only [HAct.put, List.set_cons_zero, List.set_cons_succ]
        cases h
        exact q_ret e36 at_.at_ rfl (res1 rfl rfl) ⟨rfl, rfl⟩
      · refine q_cond_f e33 (.tmp rfl) (decide_eq_false hc6) ?_
        refine q_skipc e37 ?_
        refine q_seq e38 ?_
        refine q_seq e39 ?_
        refine q_region e40 rfl ?_
        refine q_op (dst := some 17) rfl (fun _ ho => ok_move ho (.tmp rfl)) ?_
        refine q_op (dst := some 18) rfl (fun _ ho => ok_move ho (.tmp rfl)) ?_
        refine q_op (dst := some 19) rfl (fun _ ho => ok_ibin ho (.tmp rfl) (.tmp rfl) rfl) ?_
        refine hr_region_end ?_
        try dsimp only [HAct.put, List.set_cons_zero, List.set_cons_succ]
        rcases ifc h with ⟨hc7, h⟩ | ⟨hc7, h⟩
        · refine q_cond_t e41 (.tmp rfl) (decide_eq_true hc7) ?_
          refine q_seq e42 ?_
          refine q_region e43 rfl ?_
          refine q_op (dst := some 4) rfl (fun _ ho => ok_assign ho (.int _ _)) ?_
          refine hr_region_end ?_
          try dsimp only [HAct.put, List.set_cons_zero, List.set_cons_succ]
          cases h
          exact q_ret e44 at_.at_ rfl (res1 rfl rfl) ⟨rfl, rfl⟩
        · refine q_cond_f e41 (.tmp rfl) (decide_eq_false hc7) ?_
          refine q_skipc e45 ?_
          refine q_seq e46 ?_
          refine q_region e47 rfl ?_
          refine q_op (dst := some 4) rfl (fun _ ho => ok_assign ho (.int _ _)) ?_
          refine hr_region_end ?_
          try dsimp only [HAct.put, List.set_cons_zero, List.set_cons_succ]
          cases h
          exact q_ret e48 at_.at_ rfl (res1 rfl rfl) ⟨rfl, rfl⟩
end
end cmp_Compare_int
namespace cmp_isNaN_string
abbrev id : Nat := 50
theorem at_ : FnAt Try.prog 50 Try.f50 := ⟨Try.func50, by kernel_rfl⟩
noncomputable def c0 : Code := (Try.f50.body).getD .skip
noncomputable def c1 : Code := match c0 with | .seq x _ => x | _ => .skip
noncomputable def c2 : Code := match c0 with | .seq _ x => x | _ => .skip
noncomputable def c3 : Code := match c2 with | .seq x _ => x | _ => .skip
noncomputable def c4 : Code := match c2 with | .seq _ x => x | _ => .skip
theorem e0 : c0 = .seq c1 c2 := by kernel_rfl
noncomputable def r1 : Array Oper := match c1 with | .region _ x _ => x | _ => #[]
theorem e1 : c1 = .region 0 r1 false := by kernel_rfl
theorem e2 : c2 = .seq c3 c4 := by kernel_rfl
noncomputable def r3 : Array Oper := match c3 with | .region _ x _ => x | _ => #[]
theorem e3 : c3 = .region 1 r3 false := by kernel_rfl
theorem e4 : c4 = .ret := by kernel_rfl
theorem body : Try.f50.body = some c0 := by kernel_rfl
section
variable {base : Nat} {W0 : World} {β0 : Bt}
def f (x0 : (List UInt8)) : Option (Bool) :=
  some (!decide (x0 = x0))
theorem snd {x0 : (List UInt8)} {S : HS}  {p : Bool} (h : f x0 = some p) : HCall Try.prog base W0 β0 50 [(.str x0)] S (fun v S1 => v = (.bool p) ∧ S1 = S) := by
  unfold f at h
  refine HCall.of_run at_.at_ body ?_
  show HRun Try.prog base W0 β0 50 none [.code c0] ⟨[(.str x0), .tup [], .tup [], .tup [], .tup [], .tup []], []⟩ S _
  refine q_seq e0 ?_
  refine q_region e1 rfl ?_
  refine q_op (dst := some 2) rfl (fun _ ho => ok_assign ho (.bool _)) ?_
  refine hr_region_end ?_
  try dsimp only [HAct.put, List.set_cons_zero, List.set_cons_succ]
  refine q_seq e2 ?_
  refine q_region e3 rfl ?_
  refine q_op (dst := some 3) rfl (fun _ ho => ok_move ho (.tmp rfl)) ?_
  refine q_op (dst := some 4) rfl (fun _ ho => ok_move ho (.tmp rfl)) ?_
  refine q_op (dst := some 5) rfl (fun _ ho => ok_sbin ho (.tmp rfl) (.tmp rfl) rfl) ?_
  refine q_op (dst := some 2) rfl (fun _ ho => ok_assign ho (.tmp rfl)) ?_
  refine hr_region_end ?_
  try dsimp only [HAct.put, List.set_cons_zero, List.set_cons_succ]
  cases h
  exact q_ret e4 at_.at_ rfl (res1 rfl rfl) ⟨rfl, rfl⟩
end
end cmp_isNaN_string
namespace cmp_Compare_string
abbrev id : Nat := 38
theorem at_ : FnAt Try.prog 38 Try.f38 := ⟨Try.func38, by kernel_rfl⟩
noncomputable def c0 : Code := (Try.f38.body).getD .skip
noncomputable def c1 : Code := match c0 with | .seq x _ => x | _ => .skip
noncomputable def c2 : Code := match c0 with | .seq _ x => x | _ => .skip
noncomputable def c3 : Code := match c2 with | .seq x _ => x | _ => .skip
noncomputable def c4 : Code := match c2 with | .seq _ x => x | _ => .skip
noncomputable def c5 : Code := match c4 with | .seq x _ => x | _ => .skip
noncomputable def c6 : Code := match c4 with | .seq _ x => x | _ => .skip
noncomputable def c7 : Code := match c6 with | .seq x _ => x | _ => .skip
noncomputable def c8 : Code := match c7 with | .seq x _ => x | _ => .skip
noncomputable def c9 : Code := match c7 with | .seq _ x => x | _ => .skip
noncomputable def c10 : Code := match c9 with | .cond _ x _ => x | _ => .skip
noncomputable def c11 : Code := match c10 with | .seq x _ => x | _ => .skip
noncomputable def c12 : Code := match c11 with | .seq x _ => x | _ => .skip
noncomputable def c13 : Code := match c11 with | .seq _ x => x | _ => .skip
noncomputable def c14 : Code := match c13 with | .cond _ x _ => x | _ => .skip
noncomputable def c15 : Code := match c14 with | .seq x _ => x | _ => .skip
noncomputable def c16 : Code := match c14 with | .seq _ x => x | _ => .skip
noncomputable def c17 : Code := match c13 with | .cond _ _ x => x | _ => .skip
noncomputable def c18 : Code := match c10 with | .seq _ x => x | _ => .skip
noncomputable def c19 : Code := match c18 with | .seq x _ => x | _ => .skip
noncomputable def c20 : Code := match c18 with | .seq _ x => x | _ => .skip
noncomputable def c21 : Code := match c9 with | .cond _ _ x => x | _ => .skip
noncomputable def c22 : Code := match c6 with | .seq _ x => x | _ => .skip
noncomputable def c23 : Code := match c22 with | .seq x _ => x | _ => .skip
noncomputable def c24 : Code := match c23 with | .seq x _ => x | _ => .skip
noncomputable def c25 : Code := match c23 with | .seq _ x => x | _ => .skip
noncomputable def c26 : Code := match c25 with | .cond _ x _ => x | _ => .skip
noncomputable def c27 : Code := match c26 with | .seq x _ => x | _ => .skip
noncomputable def c28 : Code := match c26 with | .seq _ x => x | _ => .skip
noncomputable def c29 : Code := match c25 with | .cond _ _ x => x | _ => .skip
noncomputable def c30 : Code := match c22 with | .seq _ x => x | _ => .skip
noncomputable def c31 : Code := match c30 with | .seq x _ => x | _ => .skip
noncomputable def c32 : Code := match c31 with | .seq x _ => x | _ => .skip
noncomputable def c33 : Code := match c31 with | .seq _ x => x | _ => .skip
noncomputable def c34 : Code := match c33 with | .cond _ x _ => x | _ => .skip
noncomputable def c35 : Code := match c34 with | .seq x _ => x | _ => .skip
noncomputable def c36 : Code := match c34 with | .seq _ x => x | _ => .skip
noncomputable def c37 : Code := match c33 with | .cond _ _ x => x | _ => .skip
noncomputable def c38 : Code := match c30 with | .seq _ x => x | _ => .skip
noncomputable def c39 : Code := match c38 with | .seq x _ => x | _ => .skip
noncomputable def c40 : Code := match c39 with | .seq x _ => x | _ => .skip
noncomputable def c41 : Code := match c39 with | .seq _ x => x | _ => .skip
noncomputable def c42 : Code := match c41 with | .cond _ x _ => x | _ => .skip
noncomputable def c43 : Code := match c42 with | .seq x _ => x | _ => .skip
noncomputable def c44 : Code := match c42 with | .seq _ x => x | _ => .skip
noncomputable def c45 : Code := match c41 with | .cond _ _ x => x | _ => .skip
noncomputable def c46 : Code := match c38 with | .seq _ x => x | _ => .skip
noncomputable def c47 : Code := match c46 with | .seq x _ => x | _ => .skip
noncomputable def c48 : Code := match c46 with | .seq _ x => x | _ => .skip
theorem e0 : c0 = .seq c1 c2 := by kernel_rfl
noncomputable def r1 : Array Oper := match c1 with | .region _ x _ => x | _ => #[]
theorem e1 : c1 = .region 0 r1 false := by kernel_rfl
theorem e2 : c2 = .seq c3 c4 := by kernel_rfl
noncomputable def r3 : Array Oper := match c3 with | .region _ x _ => x | _ => #[]
theorem e3 : c3 = .region 1 r3 false := by kernel_rfl
theorem e4 : c4 = .seq c5 c6 := by kernel_rfl
noncomputable def r5 : Array Oper := match c5 with | .region _ x _ => x | _ => #[]
theorem e5 : c5 = .region 2 r5 false := by kernel_rfl
theorem e6 : c6 = .seq c7 c22 := by kernel_rfl
theorem e7 : c7 = .seq c8 c9 := by kernel_rfl
noncomputable def r8 : Array Oper := match c8 with | .region _ x _ => x | _ => #[]
theorem e8 : c8 = .region 3 r8 false := by kernel_rfl
theorem e9 : c9 = .cond (.tmp 11) c10 c21 := by kernel_rfl
theorem e10 : c10 = .seq c11 c18 := by kernel_rfl
theorem e11 : c11 = .seq c12 c13 := by kernel_rfl
noncomputable def r12 : Array Oper := match c12 with | .region _ x _ => x | _ => #[]
theorem e12 : c12 = .region 4 r12 false := by kernel_rfl
theorem e13 : c13 = .cond (.tmp 12) c14 c17 := by kernel_rfl
theorem e14 : c14 = .seq c15 c16 := by kernel_rfl
noncomputable def r15 : Array Oper := match c15 with | .region _ x _ => x | _ => #[]
theorem e15 : c15 = .region 5 r15 false := by kernel_rfl
theorem e16 : c16 = .ret := by kernel_rfl
theorem e17 : c17 = .skip := by kernel_rfl
theorem e18 : c18 = .seq c19 c20 := by kernel_rfl
noncomputable def r19 : Array Oper := match c19 with | .region _ x _ => x | _ => #[]
theorem e19 : c19 = .region 6 r19 false := by kernel_rfl
theorem e20 : c20 = .ret := by kernel_rfl
theorem e21 : c21 = .skip := by kernel_rfl
theorem e22 : c22 = .seq c23 c30 := by kernel_rfl
theorem e23 : c23 = .seq c24 c25 := by kernel_rfl
noncomputable def r24 : Array Oper := match c24 with | .region _ x _ => x | _ => #[]
theorem e24 : c24 = .region 7 r24 false := by kernel_rfl
theorem e25 : c25 = .cond (.tmp 13) c26 c29 := by kernel_rfl
theorem e26 : c26 = .seq c27 c28 := by kernel_rfl
noncomputable def r27 : Array Oper := match c27 with | .region _ x _ => x | _ => #[]
theorem e27 : c27 = .region 8 r27 false := by kernel_rfl
theorem e28 : c28 = .ret := by kernel_rfl
theorem e29 : c29 = .skip := by kernel_rfl
theorem e30 : c30 = .seq c31 c38 := by kernel_rfl
theorem e31 : c31 = .seq c32 c33 := by kernel_rfl
noncomputable def r32 : Array Oper := match c32 with | .region _ x _ => x | _ => #[]
theorem e32 : c32 = .region 9 r32 false := by kernel_rfl
theorem e33 : c33 = .cond (.tmp 16) c34 c37 := by kernel_rfl
theorem e34 : c34 = .seq c35 c36 := by kernel_rfl
noncomputable def r35 : Array Oper := match c35 with | .region _ x _ => x | _ => #[]
theorem e35 : c35 = .region 10 r35 false := by kernel_rfl
theorem e36 : c36 = .ret := by kernel_rfl
theorem e37 : c37 = .skip := by kernel_rfl
theorem e38 : c38 = .seq c39 c46 := by kernel_rfl
theorem e39 : c39 = .seq c40 c41 := by kernel_rfl
noncomputable def r40 : Array Oper := match c40 with | .region _ x _ => x | _ => #[]
theorem e40 : c40 = .region 11 r40 false := by kernel_rfl
theorem e41 : c41 = .cond (.tmp 19) c42 c45 := by kernel_rfl
theorem e42 : c42 = .seq c43 c44 := by kernel_rfl
noncomputable def r43 : Array Oper := match c43 with | .region _ x _ => x | _ => #[]
theorem e43 : c43 = .region 12 r43 false := by kernel_rfl
theorem e44 : c44 = .ret := by kernel_rfl
theorem e45 : c45 = .skip := by kernel_rfl
theorem e46 : c46 = .seq c47 c48 := by kernel_rfl
noncomputable def r47 : Array Oper := match c47 with | .region _ x _ => x | _ => #[]
theorem e47 : c47 = .region 13 r47 false := by kernel_rfl
theorem e48 : c48 = .ret := by kernel_rfl
theorem body : Try.f38.body = some c0 := by kernel_rfl
section
variable {base : Nat} {W0 : World} {β0 : Bt}
def f (x0 : (List UInt8)) (x1 : (List UInt8)) : Option (Int) :=
  (Option.bind (cmp_isNaN_string.f x0) fun p1 =>
  (Option.bind (cmp_isNaN_string.f x1) fun p2 =>
  (if p1 = true then
  (if p2 = true then
  some 0 else
  some (-1)) else
  (if p2 = true then
  some 1 else
  (if (slt x0 x1) = true then
  some (-1) else
  (if (!(slt x0 x1 || decide (x0 = x1))) = true then
  some 1 else
  some 0))))))
theorem snd {x0 : (List UInt8)} {x1 : (List UInt8)} {S : HS}  {p : Int} (h : f x0 x1 = some p) : HCall Try.prog base W0 β0 38 [(.str x0), (.str x1)] S (fun v S1 => v = (.int .i64 p) ∧ S1 = S) := by
  unfold f at h
  refine HCall.of_run at_.at_ body ?_
  show HRun Try.prog base W0 β0 38 none [.code c0] ⟨[(.str x0), (.str x1), .tup [], .tup [], .tup [], .tup [], .tup [], .tup [], .tup [], .tup [], .tup [], .tup [], .tup [], .tup [], .tup [], .tup [], .tup [], .tup [], .tup [], .tup []], []⟩ S _
  refine q_seq e0 ?_
  refine q_region e1 rfl ?_
  refine q_op (dst := some 4) rfl (fun _ ho => ok_assign ho (.int _ _)) ?_
  refine hr_region_end ?_
  try dsimp only [HAct.put, List.set_cons_zero, List.set_cons_succ]
  refine q_seq e2 ?_
  refine q_region e3 rfl ?_
  refine q_op (dst := some 7) rfl (fun _ ho => ok_move ho (.tmp rfl)) ?_
  obtain ⟨p1, hp1, h⟩ := bindo h
  refine q_call (dst := some 8) rfl (.func _) (.cons (.tmp rfl) Evs.nil) (HInv.static cmp_isNaN_string.at_ cmp_isNaN_string.body (cmp_isNaN_string.snd  hp1)) ?_
  rintro _ _ ⟨rfl, rfl⟩
  refine q_op (dst := some 5) rfl (fun _ ho => ok_assign ho (.tmp rfl)) ?_
  refine hr_region_end ?_
  try dsimp only [HAct.put, List.set_cons_zero, List.set_cons_succ]
  refine q_seq e4 ?_
  refine q_region e5 rfl ?_
  refine q_op (dst := some 9) rfl (fun _ ho => ok_move ho (.tmp rfl)) ?_
  obtain ⟨p2, hp2, h⟩ := bindo h
  refine q_call (dst := some 10) rfl (.func _) (.cons (.tmp rfl) Evs.nil) (HInv.static cmp_isNaN_string.at_ cmp_isNaN_string.body (cmp_isNaN_string.snd  hp2)) ?_
  rintro _ _ ⟨rfl, rfl⟩
  refine q_op (dst := some 6) rfl (fun _ ho => ok_assign ho (.tmp rfl)) ?_
  refine hr_region_end ?_
  try dsimp only [HAct.put, List.set_cons_zero, List.set_cons_succ]
  refine q_seq e6 ?_
  refine q_seq e7 ?_
  refine q_region e8 rfl ?_
  refine q_op (dst := some 11) rfl (fun _ ho => ok_move ho (.tmp rfl)) ?_
  refine hr_region_end ?_
  try dsimp only [HAct.put, List.set_cons_zero, List.set_cons_succ]
  rcases ifc h with ⟨hc3, h⟩ | ⟨hc3, h⟩
  · refine q_cond_t e9 (.tmp rfl) hc3 ?_
    refine q_seq e10 ?_
    refine q_seq e11 ?_
    refine q_region e12 rfl ?_
    refine q_op (dst := some 12) rfl (fun _ ho => ok_move ho (.tmp rfl)) ?_
    refine hr_region_end ?_
    try dsimp only [HAct.put, List.set_cons_zero, List.set_cons_succ]
    rcases ifc h with ⟨hc4, h⟩ | ⟨hc4, h⟩
    · refine q_cond_t e13 (.tmp rfl) hc4 ?_
      refine q_seq e14 ?_
      refine q_region e15 rfl ?_
      refine q_op (dst := some 4) rfl (fun _ ho => ok_assign ho (.int _ _)) ?_
      refine hr_region_end ?_
      try dsimp only [HAct.put, List.set_cons_zero, List.set_cons_succ]
      cases h
      exact q_ret e16 at_.at_ rfl (res1 rfl rfl) ⟨rfl, rfl⟩
    · refine q_cond_f e13 (.tmp rfl) (bfalse hc4) ?_
      refine q_skipc e17 ?_
      refine q_seq e18 ?_
      refine q_region e19 rfl ?_
      refine q_op (dst := some 4) rfl (fun _ ho => ok_assign ho (.int _ _)) ?_
      refine hr_region_end ?_
      try dsimp only [HAct.put, List.set_cons_zero, List.set_cons_succ]
      cases h
      exact q_ret e20 at_.at_ rfl (res1 rfl rfl) ⟨rfl, rfl⟩
  · refine q_cond_f e9 (.tmp rfl) (bfalse hc3) ?_
    refine q_skipc e21 ?_
    refine q_seq e22 ?_
    refine q_seq e23 ?_
    refine q_region e24 rfl ?_
    refine q_op (dst := some 13) rfl (fun _ ho => ok_move ho (.tmp rfl)) ?_
    refine hr_region_end ?_
    try dsimp only [HAct.put, List.set_cons_zero, List.set_cons_succ]
    rcases ifc h with ⟨hc5, h⟩ | ⟨hc5, h⟩
    · refine q_cond_t e25 (.tmp rfl) hc5 ?_
      refine q_seq e26 ?_
      refine q_region e27 rfl ?_
      refine q_op (dst := some 4) rfl (fun _ ho => ok_assign ho (.int _ _)) ?_
      refine hr_region_end ?_
      try dsimp only [HAct.put, List.set_cons_zero, List.set_cons_succ]
      cases h
      exact q_ret e28 at_.at_ rfl (res1 rfl rfl) ⟨rfl, rfl⟩
    · refine q_cond_f e25 (.tmp rfl) (bfalse hc5) ?_
      refine q_skipc e29 ?_
      refine q_seq e30 ?_
      refine q_seq e31 ?_
      refine q_region e32 rfl ?_
      refine q_op (dst := some 14) rfl (fun _ ho => ok_move ho (.tmp rfl)) ?_
      refine q_op (dst := some 15) rfl (fun _ ho => ok_move ho (.tmp rfl)) ?_
      refine q_op (dst := some 16) rfl (fun _ ho => ok_sbin ho (.tmp rfl) (.tmp rfl) rfl) ?_
      refine hr_region_end ?_
      try dsimp only [HAct.put, List.set_cons_zero, List.set_cons_succ]
      rcases ifc h with ⟨hc6, h⟩ | ⟨hc6, h⟩
      · refine q_cond_t e33 (.tmp rfl) hc6 ?_
        refine q_seq e34 ?_
        refine q_region e35 rfl ?_
        refine q_op (dst := some 4) rfl (fun _ ho => ok_assign ho (.int _ _)) ?_
        refine hr_region_end ?_
        try dsimp only [HAct.put, List.set_cons_zero, List.set_cons_succ]
        cases h
        exact q_ret e36 at_.at_ rfl (res1 rfl rfl) ⟨rfl, rfl⟩
      · refine q_cond_f e33 (.tmp rfl) (bfalse hc6) ?_
        refine q_skipc e37 ?_
        refine q_seq e38 ?_
        refine q_seq e39 ?_
        refine q_region e40 rfl ?_
        refine q_op (dst := some 17) rfl (fun _ ho => ok_move ho (.tmp rfl)) ?_
        refine q_op (dst := some 18) rfl (fun _ ho => ok_move ho (.tmp rfl)) ?_
        refine q_op (dst := some 19) rfl (fun _ ho => ok_sbin ho (.tmp rfl) (.tmp rfl) rfl) ?_
        refine hr_region_end ?_
        try dsimp only [HAct.put, List.set_cons_zero, List.set_cons_succ]
        rcases ifc h with ⟨hc7, h⟩ | ⟨hc7, h⟩
        · refine q_cond_t e41 (.tmp rfl) hc7 ?_
          refine q_seq e42 ?_
          refine q_region e43 rfl ?_
          refine q_op (dst := some 4) rfl (fun _ ho => ok_assign ho (.int _ _)) ?_
          refine hr_region_end ?_
          try dsimp only [HAct.put, List.set_cons_zero, List.set_cons_succ]
          cases h
          exact q_ret e44 at_.at_ rfl (res1 rfl rfl) ⟨rfl, rfl⟩
        · refine q_cond_f e41 (.tmp rfl) (bfalse hc7) ?_
          refine q_skipc e45 ?_
          refine q_seq e46 ?_
          refine q_region e47 rfl ?_
          refine q_op (dst := some 4) rfl (fun _ ho => ok_assign ho (.int _ _)) ?_
          refine hr_region_end ?_
          try dsimp only [HAct.put, List.set_cons_zero, List.set_cons_succ]
          cases h
          exact q_ret e48 at_.at_ rfl (res1 rfl rfl) ⟨rfl, rfl⟩
end
end cmp_Compare_string
namespace cmp_Or_int
abbrev id : Nat := 36
theorem at_ : FnAt Try.prog 36 Try.f36 := ⟨Try.func36, by kernel_rfl⟩
noncomputable def c0 : Code := (Try.f36.body).getD .skip
noncomputable def c1 : Code := match c0 with | .seq x _ => x | _ => .skip
noncomputable def c2 : Code := match c0 with | .seq _ x => x | _ => .skip
noncomputable def c3 : Code := match c2 with | .seq x _ => x | _ => .skip
noncomputable def c4 : Code := match c2 with | .seq _ x => x | _ => .skip
noncomputable def c5 : Code := match c4 with | .seq x _ => x | _ => .skip
noncomputable def c6 : Code := match c5 with | .seq x _ => x | _ => .skip
noncomputable def c7 : Code := match c5 with | .seq _ x => x | _ => .skip
noncomputable def c8 : Code := match c7 with | .block _ x => x | _ => .skip
noncomputable def c9 : Code := match c8 with | .loop x => x | _ => .skip
noncomputable def c10 : Code := match c9 with | .seq x _ => x | _ => .skip
noncomputable def c11 : Code := match c9 with | .seq _ x => x | _ => .skip
noncomputable def c12 : Code := match c11 with | .seq x _ => x | _ => .skip
noncomputable def c13 : Code := match c12 with | .cond _ x _ => x | _ => .skip
noncomputable def c14 : Code := match c12 with | .cond _ _ x => x | _ => .skip
noncomputable def c15 : Code := match c11 with | .seq _ x => x | _ => .skip
noncomputable def c16 : Code := match c15 with | .seq x _ => x | _ => .skip
noncomputable def c17 : Code := match c16 with | .block _ x => x | _ => .skip
noncomputable def c18 : Code := match c17 with | .seq x _ => x | _ => .skip
noncomputable def c19 : Code := match c17 with | .seq _ x => x | _ => .skip
noncomputable def c20 : Code := match c19 with | .seq x _ => x | _ => .skip
noncomputable def c21 : Code := match c19 with | .seq _ x => x | _ => .skip
noncomputable def c22 : Code := match c21 with | .cond _ x _ => x | _ => .skip
noncomputable def c23 : Code := match c22 with | .seq x _ => x | _ => .skip
noncomputable def c24 : Code := match c22 with | .seq _ x => x | _ => .skip
noncomputable def c25 : Code := match c21 with | .cond _ _ x => x | _ => .skip
noncomputable def c26 : Code := match c15 with | .seq _ x => x | _ => .skip
noncomputable def c27 : Code := match c4 with | .seq _ x => x | _ => .skip
noncomputable def c28 : Code := match c27 with | .seq x _ => x | _ => .skip
noncomputable def c29 : Code := match c27 with | .seq _ x => x | _ => .skip
theorem e0 : c0 = .seq c1 c2 := by kernel_rfl
noncomputable def r1 : Array Oper := match c1 with | .region _ x _ => x | _ => #[]
theorem e1 : c1 = .region 0 r1 false := by kernel_rfl
theorem e2 : c2 = .seq c3 c4 := by kernel_rfl
noncomputable def r3 : Array Oper := match c3 with | .region _ x _ => x | _ => #[]
theorem e3 : c3 = .region 1 r3 false := by kernel_rfl
theorem e4 : c4 = .seq c5 c27 := by kernel_rfl
theorem e5 : c5 = .seq c6 c7 := by kernel_rfl
noncomputable def r6 : Array Oper := match c6 with | .region _ x _ => x | _ => #[]
theorem e6 : c6 = .region 2 r6 false := by kernel_rfl
theorem e7 : c7 = .block 0 c8 := by kernel_rfl
theorem e8 : c8 = .loop c9 := by kernel_rfl
theorem e9 : c9 = .seq c10 c11 := by kernel_rfl
noncomputable def r10 : Array Oper := match c10 with | .region _ x _ => x | _ => #[]
theorem e10 : c10 = .region 3 r10 false := by kernel_rfl
theorem e11 : c11 = .seq c12 c15 := by kernel_rfl
theorem e12 : c12 = .cond (.tmp 9) c13 c14 := by kernel_rfl
theorem e13 : c13 = .skip := by kernel_rfl
theorem e14 : c14 = .exit 0 := by kernel_rfl
theorem e15 : c15 = .seq c16 c26 := by kernel_rfl
theorem e16 : c16 = .block 1 c17 := by kernel_rfl
theorem e17 : c17 = .seq c18 c19 := by kernel_rfl
noncomputable def r18 : Array Oper := match c18 with | .region _ x _ => x | _ => #[]
theorem e18 : c18 = .region 4 r18 false := by kernel_rfl
theorem e19 : c19 = .seq c20 c21 := by kernel_rfl
noncomputable def r20 : Array Oper := match c20 with | .region _ x _ => x | _ => #[]
theorem e20 : c20 = .region 5 r20 false := by kernel_rfl
theorem e21 : c21 = .cond (.tmp 14) c22 c25 := by kernel_rfl
theorem e22 : c22 = .seq c23 c24 := by kernel_rfl
noncomputable def r23 : Array Oper := match c23 with | .region _ x _ => x | _ => #[]
theorem e23 : c23 = .region 6 r23 false := by kernel_rfl
theorem e24 : c24 = .ret := by kernel_rfl
theorem e25 : c25 = .skip := by kernel_rfl
noncomputable def r26 : Array Oper := match c26 with | .region _ x _ => x | _ => #[]
theorem e26 : c26 = .region 7 r26 false := by kernel_rfl
theorem e27 : c27 = .seq c28 c29 := by kernel_rfl
noncomputable def r28 : Array Oper := match c28 with | .region _ x _ => x | _ => #[]
theorem e28 : c28 = .region 8 r28 false := by kernel_rfl
theorem e29 : c29 = .ret := by kernel_rfl
theorem body : Try.f36.body = some c0 := by kernel_rfl
section
variable {base : Nat} {W0 : World} {β0 : Bt}
def L0 (k : Nat) : Nat → Int → Sl → Int → Int → HS → Option ((Int) × HS)
  | 0, _, _, _, _, _ => none
  | n + 1, y3, y6, y7, y8, S =>
    (if y8 < y7 then
    (Option.bind (HS.idx S y6 y8 1) fun p2 =>
    (Option.bind (HS.ldI S .i64 p2) fun p3 =>
    (if (!decide (p3 = y3)) = true then
    some (p3, S) else
    (L0 k n) y3 y6 y7 (w64 (y8 + 1)) S))) else
    some (y3, S))
theorem L0_snd {k : Nat}  : ∀ {n : Nat} ⦃y3 : Int⦄ ⦃y6 : Sl⦄ ⦃y7 : Int⦄ ⦃y8 : Int⦄ ⦃S : HS⦄ ⦃p : (Int) × HS⦄ ⦃g0 g1 g2 g4 g5 g9 g10 g11 g12 g13 g14 g15 g16 g17 : HV⦄, L0 k n y3 y6 y7 y8 S = some p → HRun Try.prog base W0 β0 36 none [.inLoop c9, .inBlock 0, .code c27] ⟨[g0, g1, g2, (.int .i64 y3), g4, g5, (Sl.hv y6), (.int .i64 y7), (.int .i64 y8), g9, g10, g11, g12, g13, g14, g15, g16, g17], []⟩ S (fun v S1 => v = (.int .i64 p.1) ∧ S1 = p.2) := by
  intro n
  induction n with
  | zero => intro _ _ _ _ _ _ _ _ _ _ _ _ _ _ _ _ _ _ _ _ h; cases h
  | succ n ih =>
    intro y3 y6 y7 y8 S p g0 g1 g2 g4 g5 g9 g10 g11 g12 g13 g14 g15 g16 g17 h
    simp only [L0] at h
    refine hr_inLoop ?_
    refine q_seq e9 ?_
    refine q_region e10 rfl ?_
    refine q_op (dst := some 9) rfl (fun _ ho => ok_ibin ho (.tmp rfl) (.tmp rfl) rfl) ?_
    refine hr_region_end ?_
    try dsimp only [HAct.put, List.set_cons_zero, List.set_cons_succ]
    refine q_seq e11 ?_
    rcases ifc h with ⟨hc1, h⟩ | ⟨hc1, h⟩
    · refine q_cond_t e12 (.tmp rfl) (decide_eq_true hc1) ?_
      refine q_skipc e13 ?_
      refine q_seq e15 ?_
      refine q_block e16 ?_
      refine q_seq e17 ?_
      refine q_region e18 rfl ?_
      obtain ⟨p2, hp2, h⟩ := bindo h
      refine q_op (dst := some 10) rfl (fun _ ho => ok_indexAddr (s := y6) ho tu48 sz3 (.tmp rfl) (.tmp rfl) hp2) ?_
      obtain ⟨p3, hp3, h⟩ := bindo h
      refine q_op (dst := some 11) rfl (fun _ ho => ok_load_s ho sc3 (.tmp rfl) rfl (ldI_out hp3)) ?_
      refine q_op (dst := some 5) rfl (fun _ ho => ok_assign ho (.tmp rfl)) ?_
      refine hr_region_end ?_
      try dsimp only [HAct.put, List.set_cons_zero, List.set_cons_succ]
      refine q_seq e19 ?_
      refine q_region e20 rfl ?_
      refine q_op (dst := some 12) rfl (fun _ ho => ok_move ho (.tmp rfl)) ?_
      refine q_op (dst := some 13) rfl (fun _ ho => ok_move ho (.tmp rfl)) ?_
      refine q_op (dst := some 14) rfl (fun _ ho => ok_ibin ho (.tmp rfl) (.tmp rfl) rfl) ?_
      refine hr_region_end ?_
      try dsimp only [HAct.put, List.set_cons_zero, List.set_cons_succ]
      rcases ifc h with ⟨hc4, h⟩ | ⟨hc4, h⟩
      · refine q_cond_t e21 (.tmp rfl) hc4 ?_
        refine q_seq e22 ?_
        refine q_region e23 rfl ?_
        refine q_op (dst := some 15) rfl (fun _ ho => ok_move ho (.tmp rfl)) ?_
        refine q_op (dst := some 2) rfl (fun _ ho => ok_assign ho (.tmp rfl)) ?_
        refine hr_region_end ?_
        try dsimp only [HAct.put, List.set_cons_zero, List.set_cons_succ]
        cases h
        exact q_ret e24 at_.at_ rfl (res1 rfl rfl) ⟨rfl, rfl⟩
      · refine q_cond_f e21 (.tmp rfl) (bfalse hc4) ?_
        refine q_skipc e25 ?_
        refine hr_inBlock ?_
        refine q_region e26 rfl ?_
        refine q_op (dst := some 16) rfl (fun _ ho => ok_ibin ho (.tmp rfl) (.int _ _) rfl) ?_
        refine q_op (dst := some 8) rfl (fun _ ho => ok_move ho (.tmp rfl)) ?_
        refine hr_region_end ?_
        try dsimp only [HAct.put, List.set_cons_zero, List.set_cons_succ]
        try dsimp only [HAct.put, List.set_cons_zero, List.set_cons_succ]
        exact ih h
    · refine q_cond_f e12 (.tmp rfl) (decide_eq_false hc1) ?_
      refine q_exit e14 rfl ?_
      refine q_seq e27 ?_
      refine q_region e28 rfl ?_
      refine q_op (dst := some 17) rfl (fun _ ho => ok_move ho (.tmp rfl)) ?_
      refine q_op (dst := some 2) rfl (fun _ ho => ok_assign ho (.tmp rfl)) ?_
      refine hr_region_end ?_
      try dsimp only [HAct.put, List.set_cons_zero, List.set_cons_succ]
      cases h
      exact q_ret e29 at_.at_ rfl (res1 rfl rfl) ⟨rfl, rfl⟩
def f (k : Nat) (x0 : Sl) (S : HS) : Option ((Int) × HS) :=
  L0 k k 0 x0 (Sl.len x0 : Int) 0 S
theorem snd {k : Nat} {x0 : Sl} {S : HS}  {p : (Int) × HS} (h : f k x0 S = some p) : HCall Try.prog base W0 β0 36 [(Sl.hv x0)] S (fun v S1 => v = (.int .i64 p.1) ∧ S1 = p.2) := by
  unfold f at h
  refine HCall.of_run at_.at_ body ?_
  show HRun Try.prog base W0 β0 36 none [.code c0] ⟨[(Sl.hv x0), .tup [], .tup [], .tup [], .tup [], .tup [], .tup [], .tup [], .tup [], .tup [], .tup [], .tup [], .tup [], .tup [], .tup [], .tup [], .tup [], .tup []], []⟩ S _
  refine q_seq e0 ?_
  refine q_region e1 rfl ?_
  refine q_op (dst := some 2) rfl (fun _ ho => ok_assign ho (.int _ _)) ?_
  refine hr_region_end ?_
  try dsimp only [HAct.put, List.set_cons_zero, List.set_cons_succ]
  refine q_seq e2 ?_
  refine q_region e3 rfl ?_
  refine q_op (dst := some 3) rfl (fun _ ho => ok_assign ho (.int _ _)) ?_
  refine hr_region_end ?_
  try dsimp only [HAct.put, List.set_cons_zero, List.set_cons_succ]
  refine q_seq e4 ?_
  refine q_seq e5 ?_
  refine q_region e6 rfl ?_
  refine q_op (dst := some 6) rfl (fun _ ho => ok_move ho (.tmp rfl)) ?_
  refine q_op (dst := some 7) rfl (fun _ ho => ok_len_sl (q := Sl.a x0) (n := Sl.len x0) (z := Sl.cap x0) ho rfl tu48 (.tmp rfl)) ?_
  refine q_op (dst := some 8) rfl (fun _ ho => ok_move ho (.int _ _)) ?_
  refine hr_region_end ?_
  try dsimp only [HAct.put, List.set_cons_zero, List.set_cons_succ]
  refine q_block e7 ?_
  refine q_loop e8 ?_
  try dsimp only [HAct.put, List.set_cons_zero, List.set_cons_succ]
  exact L0_snd  h
end
end cmp_Or_int
namespace timer_compare_string
abbrev id : Nat := 26
theorem at_ : FnAt Try.prog 26 Try.f26 := ⟨Try.func26, by kernel_rfl⟩
noncomputable def c0 : Code := (Try.f26.body).getD .skip
noncomputable def c1 : Code := match c0 with | .seq x _ => x | _ => .skip
noncomputable def c2 : Code := match c0 with | .seq _ x => x | _ => .skip
noncomputable def c3 : Code := match c2 with | .seq x _ => x | _ => .skip
noncomputable def c4 : Code := match c2 with | .seq _ x => x | _ => .skip
theorem e0 : c0 = .seq c1 c2 := by kernel_rfl
noncomputable def r1 : Array Oper := match c1 with | .region _ x _ => x | _ => #[]
theorem e1 : c1 = .region 0 r1 false := by kernel_rfl
theorem e2 : c2 = .seq c3 c4 := by kernel_rfl
noncomputable def r3 : Array Oper := match c3 with | .region _ x _ => x | _ => #[]
theorem e3 : c3 = .region 1 r3 true := by kernel_rfl
theorem e4 : c4 = .ret := by kernel_rfl
theorem body : Try.f26.body = some c0 := by kernel_rfl
section
variable {base : Nat} {W0 : World} {β0 : Bt}
def f (k : Nat) (x0_0 : (List UInt8)) (x0_1 : Int) (x1_0 : (List UInt8)) (x1_1 : Int) (S : HS) : Option ((Int) × HS) :=
  (letv (HS.new S (.cells 2 [[(.str x0_0), (.int .i64 x0_1)]] true)) fun p1 =>
  (letv (HS.new p1 (.cells 2 [[(.str x1_0), (.int .i64 x1_1)]] true)) fun p2 =>
  (Option.bind (HS.ldI p2 .i64 (HA.fld (HA.cell0 S.next) 1)) fun p3 =>
  (Option.bind (HS.ldI p2 .i64 (HA.fld (HA.cell0 p1.next) 1)) fun p4 =>
  (Option.bind (cmp_Compare_int.f p3 p4) fun p5 =>
  (Option.bind (HS.ldS p2 (HA.fld (HA.cell0 S.next) 0)) fun p6 =>
  (Option.bind (HS.ldS p2 (HA.fld (HA.cell0 p1.next) 0)) fun p7 =>
  (Option.bind (cmp_Compare_string.f p6 p7) fun p8 =>
  (letv (HS.lit p2 [[(.int .i64 p5)], [(.int .i64 p8)]] 1) fun p9 =>
  (Option.bind (cmp_Or_int.f k (p9.1) (p9.2)) fun p10 =>
  some (p10.1, p10.2)))))))))))
theorem snd {k : Nat} {x0_0 : (List UInt8)} {x0_1 : Int} {x1_0 : (List UInt8)} {x1_1 : Int} {S : HS}  {p : (Int) × HS} (h : f k x0_0 x0_1 x1_0 x1_1 S = some p) : HCall Try.prog base W0 β0 26 [(.agg [(.str x0_0), (.int .i64 x0_1)]), (.agg [(.str x1_0), (.int .i64 x1_1)])] S (fun v S1 => v = (.int .i64 p.1) ∧ S1 = p.2) := by
  unfold f at h
  refine HCall.of_run at_.at_ body ?_
  show HRun Try.prog base W0 β0 26 none [.code c0] ⟨[(.agg [(.str x0_0), (.int .i64 x0_1)]), (.agg [(.str x1_0), (.int .i64 x1_1)]), .tup [], .tup [], .tup [], .tup [], .tup [], .tup [], .tup [], .tup [], .tup [], .tup [], .tup [], .tup [], .tup [], .tup [], .tup []], []⟩ S _
  refine q_seq e0 ?_
  refine q_region e1 rfl ?_
  obtain ⟨p1, hp1, h⟩ := leto h
  refine q_op (dst := some 2) rfl (fun _ ho => ok_box_e ho (.tmp rfl) (Nat.zero_lt_succ _) rfl hp1) ?_
  obtain ⟨p2, hp2, h⟩ := leto h
  refine q_op (dst := some 3) rfl (fun _ ho => ok_box_e ho (.tmp rfl) (Nat.zero_lt_succ _) rfl hp2) ?_
  refine q_op (dst := some 4) rfl (fun _ ho => ok_assign ho (.int _ _)) ?_
  refine hr_region_end ?_
  try dsimp only [HAct.put, List.set_cons_zero, List.set_cons_succ]
  refine q_seq e2 ?_
  refine x_start (cls := [0, 1, 0, 1, 0, 0, 1, 0, 1, 0, 2, 2, 0]) (rk := [0, 1, 2, 3, 4, 5, 6, 7, 8, 9, 10, 11, 12]) e3 (by kernel_rfl) ?_
  refine x_go (f_op (dst := some 5) (ts := [2]) rfl (by intro _ _ h; cases h) (by kernel_rfl) (fun _ _ ho => ok_fieldAddr_s ho fi63_1 (by decide) (.tmp rfl) rfl)) rfl ?_
  obtain ⟨p3, hp3, h⟩ := bindo h
  refine x_go (r_op (dst := some 6) (ts := [5]) rfl (by intro _ _ h; cases h) (by kernel_rfl) (fun _ ho => ok_load_s ho sc3 (.tmp rfl) rfl (ldI_out hp3))) rfl ?_
  refine x_go (f_op (dst := some 7) (ts := [3]) rfl (by intro _ _ h; cases h) (by kernel_rfl) (fun _ _ ho => ok_fieldAddr_s ho fi63_1 (by decide) (.tmp rfl) rfl)) rfl ?_
  obtain ⟨p4, hp4, h⟩ := bindo h
  refine x_go (r_op (dst := some 8) (ts := [7]) rfl (by intro _ _ h; cases h) (by kernel_rfl) (fun _ ho => ok_load_s ho sc3 (.tmp rfl) rfl (ldI_out hp4))) rfl ?_
  try dsimp only [HAct.put, List.set_cons_zero, List.set_cons_succ]
  obtain ⟨p5, hp5, h⟩ := bindo h
  refine x_go (f_call (dst := some 9) (ts := [6, 8]) rfl (by kernel_rfl) (.func _) (.cons (.tmp rfl) (.cons (.tmp rfl) Evs.nil)) (fun _ => (HInv.static cmp_Compare_int.at_ cmp_Compare_int.body (cmp_Compare_int.snd  hp5)))) rfl ?_
  refine x_go (f_op (dst := some 10) (ts := [2]) rfl (by intro _ _ h; cases h) (by kernel_rfl) (fun _ _ ho => ok_fieldAddr_s ho fi63_0 (by decide) (.tmp rfl) rfl)) rfl ?_
  obtain ⟨p6, hp6, h⟩ := bindo h
  refine x_go (r_op (dst := some 11) (ts := [10]) rfl (by intro _ _ h; cases h) (by kernel_rfl) (fun _ ho => ok_load_s ho sc9 (.tmp rfl) rfl (ldS_out hp6))) rfl ?_
  refine x_go (f_op (dst := some 12) (ts := [3]) rfl (by intro _ _ h; cases h) (by kernel_rfl) (fun _ _ ho => ok_fieldAddr_s ho fi63_0 (by decide) (.tmp rfl) rfl)) rfl ?_
  try dsimp only [HAct.put, List.set_cons_zero, List.set_cons_succ]
  obtain ⟨p7, hp7, h⟩ := bindo h
  refine x_go (r_op (dst := some 13) (ts := [12]) rfl (by intro _ _ h; cases h) (by kernel_rfl) (fun _ ho => ok_load_s ho sc9 (.tmp rfl) rfl (ldS_out hp7))) rfl ?_
  obtain ⟨p8, hp8, h⟩ := bindo h
  refine x_go (f_call (dst := some 14) (ts := [11, 13]) rfl (by kernel_rfl) (.func _) (.cons (.tmp rfl) (.cons (.tmp rfl) Evs.nil)) (fun _ => (HInv.static cmp_Compare_string.at_ cmp_Compare_string.body (cmp_Compare_string.snd  hp8)))) rfl ?_
  obtain ⟨p9, hp9, h⟩ := leto h
  refine x_go (e_op (dst := some 15) (ts := [9, 14]) rfl (by intro _ _ h; cases h) (by kernel_rfl) (fun _ ho => ok_buildSlice_s (xs := [(.tmp 9), (.tmp 14)]) el48 ho rfl rfl (by decide) (.cons (.tmp rfl) (.cons (.tmp rfl) Evs.nil)) rfl rfl hp9)) rfl ?_
  obtain ⟨p10, hp10, h⟩ := bindo h
  refine x_go (e_call (dst := some 16) (ts := [15]) rfl (by kernel_rfl) (.func _) (.cons (.tmp rfl) Evs.nil) (HInv.static cmp_Or_int.at_ cmp_Or_int.body (cmp_Or_int.snd  hp10))) rfl ?_
  try dsimp only [HAct.put, List.set_cons_zero, List.set_cons_succ]
  refine x_go (f_op (dst := some 4) (ts := [16]) rfl (by intro _ _ h; cases h) (by kernel_rfl) (fun _ _ ho => ok_assign ho (.tmp rfl))) rfl ?_
  refine x_rest rfl ?_
  refine hr_region_end ?_
  try dsimp only [HAct.put, List.set_cons_zero, List.set_cons_succ]
  cases h
  exact q_ret e4 at_.at_ rfl (res1 rfl rfl) ⟨rfl, rfl⟩
end
end timer_compare_string
namespace slices_Delete_timer_item_string_timer_item_string
abbrev id : Nat := 27
theorem at_ : FnAt Try.prog 27 Try.f27 := ⟨Try.func27, by kernel_rfl⟩
noncomputable def c0 : Code := (Try.f27.body).getD .skip
noncomputable def c1 : Code := match c0 with | .seq x _ => x | _ => .skip
noncomputable def c2 : Code := match c0 with | .seq _ x => x | _ => .skip
noncomputable def c3 : Code := match c2 with | .seq x _ => x | _ => .skip
noncomputable def c4 : Code := match c2 with | .seq _ x => x | _ => .skip
noncomputable def c5 : Code := match c4 with | .seq x _ => x | _ => .skip
noncomputable def c6 : Code := match c5 with | .seq x _ => x | _ => .skip
noncomputable def c7 : Code := match c5 with | .seq _ x => x | _ => .skip
noncomputable def c8 : Code := match c7 with | .cond _ x _ => x | _ => .skip
noncomputable def c9 : Code := match c8 with | .seq x _ => x | _ => .skip
noncomputable def c10 : Code := match c8 with | .seq _ x => x | _ => .skip
noncomputable def c11 : Code := match c7 with | .cond _ _ x => x | _ => .skip
noncomputable def c12 : Code := match c4 with | .seq _ x => x | _ => .skip
noncomputable def c13 : Code := match c12 with | .seq x _ => x | _ => .skip
noncomputable def c14 : Code := match c12 with | .seq _ x => x | _ => .skip
noncomputable def c15 : Code := match c14 with | .seq x _ => x | _ => .skip
noncomputable def c16 : Code := match c14 with | .seq _ x => x | _ => .skip
noncomputable def c17 : Code := match c16 with | .seq x _ => x | _ => .skip
noncomputable def c18 : Code := match c16 with | .seq _ x => x | _ => .skip
noncomputable def c19 : Code := match c18 with | .seq x _ => x | _ => .skip
noncomputable def c20 : Code := match c18 with | .seq _ x => x | _ => .skip
theorem e0 : c0 = .seq c1 c2 := by kernel_rfl
noncomputable def r1 : Array Oper := match c1 with | .region _ x _ => x | _ => #[]
theorem e1 : c1 = .region 0 r1 false := by kernel_rfl
theorem e2 : c2 = .seq c3 c4 := by kernel_rfl
noncomputable def r3 : Array Oper := match c3 with | .region _ x _ => x | _ => #[]
theorem e3 : c3 = .region 1 r3 false := by kernel_rfl
theorem e4 : c4 = .seq c5 c12 := by kernel_rfl
theorem e5 : c5 = .seq c6 c7 := by kernel_rfl
noncomputable def r6 : Array Oper := match c6 with | .region _ x _ => x | _ => #[]
theorem e6 : c6 = .region 2 r6 false := by kernel_rfl
theorem e7 : c7 = .cond (.tmp 16) c8 c11 := by kernel_rfl
theorem e8 : c8 = .seq c9 c10 := by kernel_rfl
noncomputable def r9 : Array Oper := match c9 with | .region _ x _ => x | _ => #[]
theorem e9 : c9 = .region 3 r9 false := by kernel_rfl
theorem e10 : c10 = .ret := by kernel_rfl
theorem e11 : c11 = .skip := by kernel_rfl
theorem e12 : c12 = .seq c13 c14 := by kernel_rfl
noncomputable def r13 : Array Oper := match c13 with | .region _ x _ => x | _ => #[]
theorem e13 : c13 = .region 4 r13 false := by kernel_rfl
theorem e14 : c14 = .seq c15 c16 := by kernel_rfl
noncomputable def r15 : Array Oper := match c15 with | .region _ x _ => x | _ => #[]
theorem e15 : c15 = .region 5 r15 true := by kernel_rfl
theorem e16 : c16 = .seq c17 c18 := by kernel_rfl
noncomputable def r17 : Array Oper := match c17 with | .region _ x _ => x | _ => #[]
theorem e17 : c17 = .region 6 r17 false := by kernel_rfl
theorem e18 : c18 = .seq c19 c20 := by kernel_rfl
noncomputable def r19 : Array Oper := match c19 with | .region _ x _ => x | _ => #[]
theorem e19 : c19 = .region 7 r19 false := by kernel_rfl
theorem e20 : c20 = .ret := by kernel_rfl
theorem body : Try.f27.body = some c0 := by kernel_rfl
section
variable {base : Nat} {W0 : World} {β0 : Bt}
def f (x0 : Sl) (x1 : Int) (x2 : Int) (S : HS) : Option ((Sl) × HS) :=
  (Option.bind (HS.cut3 S x0 x1 x2 (Sl.len x0 : Int) 2) fun p1 =>
  (if x1 = x2 then
  some (x0, S) else
  (Option.bind (HS.cut S x0 0 x1 2) fun p3 =>
  (Option.bind (HS.cut S x0 x2 (Sl.len x0 : Int) 2) fun p4 =>
  (Option.bind (HS.rows S p4 2) fun p5 =>
  (Option.bind (HS.app S p3 p5 2) fun p6 =>
  (Option.bind (HS.cut (p6.2) (p6.1) (Sl.len (p6.1) : Int) (Sl.len x0 : Int) 2) fun p7 =>
  (Option.bind (HS.over (p6.2) p7 (List.replicate (Sl.len p7) [(.str []), (.int .i64 0)]) 2) fun p8 =>
  some ((p6.1), p8)))))))))
theorem snd {x0 : Sl} {x1 : Int} {x2 : Int} {S : HS}  {p : (Sl) × HS} (h : f x0 x1 x2 S = some p) : HCall Try.prog base W0 β0 27 [(Sl.hv x0), (.int .i64 x1), (.int .i64 x2)] S (fun v S1 => v = (Sl.hv p.1) ∧ S1 = p.2) := by
  unfold f at h
  refine HCall.of_run at_.at_ body ?_
  show HRun Try.prog base W0 β0 27 none [.code c0] ⟨[(Sl.hv x0), (.int .i64 x1), (.int .i64 x2), .tup [], .tup [], .tup [], .tup [], .tup [], .tup [], .tup [], .tup [], .tup [], .tup [], .tup [], .tup [], .tup [], .tup [], .tup [], .tup [], .tup [], .tup [], .tup [], .tup [], .tup [], .tup [], .tup [], .tup [], .tup [], .tup [], .tup [], .tup [], .tup [], .tup []], []⟩ S _
  refine q_seq e0 ?_
  refine q_region e1 rfl ?_
  refine q_op (dst := some 6) rfl (fun _ ho => ok_assign ho (.const fun _ => .slNil none)) ?_
  refine hr_region_end ?_
  try dsimp only [HAct.put, List.set_cons_zero, List.set_cons_succ]
  refine q_seq e2 ?_
  refine q_region e3 rfl ?_
  refine q_op (dst := some 8) rfl (fun _ ho => ok_move ho (.tmp rfl)) ?_
  refine q_op (dst := some 9) rfl (fun _ ho => ok_move ho (.tmp rfl)) ?_
  refine q_op (dst := some 10) rfl (fun _ ho => ok_move ho (.tmp rfl)) ?_
  refine q_op (dst := some 11) rfl (fun _ ho => ok_move ho (.tmp rfl)) ?_
  try dsimp only [HAct.put, List.set_cons_zero, List.set_cons_succ]
  refine q_op (dst := some 12) rfl (fun _ ho => ok_len_sl (q := Sl.a x0) (n := Sl.len x0) (z := Sl.cap x0) ho rfl tu58 (.tmp rfl)) ?_
  obtain ⟨p1, hp1, h⟩ := bindo h
  refine q_op (dst := some 13) rfl (fun _ ho => ok_slice3 (kl := .i64) (kh := .i64) (s := x0) (l := x1) (h := x2) ho tu58 si63 (.tmp rfl) (.inr ⟨_, rfl, (.tmp rfl)⟩) (.inr ⟨_, rfl, (.tmp rfl)⟩) (.tmp rfl) hp1) ?_
  refine hr_region_end ?_
  try dsimp only [HAct.put, List.set_cons_zero, List.set_cons_succ]
  refine q_seq e4 ?_
  refine q_seq e5 ?_
  refine q_region e6 rfl ?_
  refine q_op (dst := some 14) rfl (fun _ ho => ok_move ho (.tmp rfl)) ?_
  refine q_op (dst := some 15) rfl (fun _ ho => ok_move ho (.tmp rfl)) ?_
  refine q_op (dst := some 16) rfl (fun _ ho => ok_ibin ho (.tmp rfl) (.tmp rfl) rfl) ?_
  refine hr_region_end ?_
  try dsimp only [HAct.put, List.set_cons_zero, List.set_cons_succ]
  rcases ifc h with ⟨hc2, h⟩ | ⟨hc2, h⟩
  · refine q_cond_t e7 (.tmp rfl) (decide_eq_true hc2) ?_
    refine q_seq e8 ?_
    refine q_region e9 rfl ?_
    refine q_op (dst := some 17) rfl (fun _ ho => ok_move ho (.tmp rfl)) ?_
    refine q_op (dst := some 6) rfl (fun _ ho => ok_assign ho (.tmp rfl)) ?_
    refine hr_region_end ?_
    try dsimp only [HAct.put, List.set_cons_zero, List.set_cons_succ]
    cases h
    exact q_ret e10 at_.at_ rfl (res1 rfl rfl) ⟨rfl, rfl⟩
  · refine q_cond_f e7 (.tmp rfl) (decide_eq_false hc2) ?_
    refine q_skipc e11 ?_
    refine q_seq e12 ?_
    refine q_region e13 rfl ?_
    refine q_op (dst := some 18) rfl (fun _ ho => ok_move ho (.tmp rfl)) ?_
    refine q_op (dst := some 19) rfl (fun _ ho => ok_len_sl (q := Sl.a x0) (n := Sl.len x0) (z := Sl.cap x0) ho rfl tu58 (.tmp rfl)) ?_
    refine q_op (dst := some 7) rfl (fun _ ho => ok_assign ho (.tmp rfl)) ?_
    refine hr_region_end ?_
    try dsimp only [HAct.put, List.set_cons_zero, List.set_cons_succ]
    refine q_seq e14 ?_
    refine x_start (cls := [0, 0, 1, 0, 0, 1, 2, 0]) (rk := [0, 1, 2, 3, 4, 5, 6, 7]) e15 (by kernel_rfl) ?_
    refine x_go (f_op (dst := some 20) (ts := [0]) rfl (by intro _ _ h; cases h) (by kernel_rfl) (fun _ _ ho => ok_move ho (.tmp rfl))) rfl ?_
    refine x_go (f_op (dst := some 21) (ts := [1]) rfl (by intro _ _ h; cases h) (by kernel_rfl) (fun _ _ ho => ok_move ho (.tmp rfl))) rfl ?_
    obtain ⟨p3, hp3, h⟩ := bindo h
    refine x_go (r_op (dst := some 22) (ts := [20, 21]) rfl (by intro _ _ h; cases h) (by kernel_rfl) (fun _ ho => ok_slice (kl := .i64) (kh := .i64) (s := x0) (l := 0) (h := x1) ho tu58 si63 (.tmp rfl) (.inl ⟨rfl, rfl⟩) (.inr ⟨_, rfl, (.tmp rfl)⟩) hp3)) rfl ?_
    refine x_go (f_op (dst := some 23) (ts := [0]) rfl (by intro _ _ h; cases h) (by kernel_rfl) (fun _ _ ho => ok_move ho (.tmp rfl))) rfl ?_
    try dsimp only [HAct.put, List.set_cons_zero, List.set_cons_succ]
    refine x_go (f_op (dst := some 24) (ts := [2]) rfl (by intro _ _ h; cases h) (by kernel_rfl) (fun _ _ ho => ok_move ho (.tmp rfl))) rfl ?_
    obtain ⟨p4, hp4, h⟩ := bindo h
    refine x_go (r_op (dst := some 25) (ts := [23, 24]) rfl (by intro _ _ h; cases h) (by kernel_rfl) (fun _ ho => ok_slice (kl := .i64) (kh := .i64) (s := x0) (l := x2) (h := (Sl.len x0 : Int)) ho tu58 si63 (.tmp rfl) (.inr ⟨_, rfl, (.tmp rfl)⟩) (.inl ⟨rfl, rfl⟩) hp4)) rfl ?_
    obtain ⟨p5, hp5, h⟩ := bindo h
    obtain ⟨p6, hp6, h⟩ := bindo h
    refine x_go (e_op (dst := some 26) (ts := [22, 25]) rfl (by intro _ _ h; cases h) (by kernel_rfl) (fun _ ho => ok_append (s := p3) (s1 := p4) el58 ho rfl rfl ⟨_, tu58⟩ (.tmp rfl) (.tmp rfl) hp5 hp6)) rfl ?_
    refine x_go (f_op (dst := some 0) (ts := [26]) rfl (by intro _ _ h; cases h) (by kernel_rfl) (fun _ _ ho => ok_assign ho (.tmp rfl))) rfl ?_
    refine x_rest rfl ?_
    refine hr_region_end ?_
    try dsimp only [HAct.put, List.set_cons_zero, List.set_cons_succ]
    refine q_seq e16 ?_
    refine q_region e17 rfl ?_
    refine q_op (dst := some 27) rfl (fun _ ho => ok_move ho (.tmp rfl)) ?_
    refine q_op (dst := some 28) rfl (fun _ ho => ok_move ho (.tmp rfl)) ?_
    refine q_op (dst := some 29) rfl (fun _ ho => ok_len_sl (q := Sl.a (p6.1)) (n := Sl.len (p6.1)) (z := Sl.cap (p6.1)) ho rfl tu58 (.tmp rfl)) ?_
    refine q_op (dst := some 30) rfl (fun _ ho => ok_move ho (.tmp rfl)) ?_
    try dsimp only [HAct.put, List.set_cons_zero, List.set_cons_succ]
    obtain ⟨p7, hp7, h⟩ := bindo h
    refine q_op (dst := some 31) rfl (fun _ ho => ok_slice (kl := .i64) (kh := .i64) (s := (p6.1)) (l := (Sl.len (p6.1) : Int)) (h := (Sl.len x0 : Int)) ho tu58 si63 (.tmp rfl) (.inr ⟨_, rfl, (.tmp rfl)⟩) (.inr ⟨_, rfl, (.tmp rfl)⟩) hp7) ?_
    obtain ⟨p8, hp8, h⟩ := bindo h
    refine q_op (dst := none) rfl (fun _ ho => ok_clear (s := p7) el58 ho rfl (.tmp rfl) hp8) ?_
    refine hr_region_end ?_
    try dsimp only [HAct.put, List.set_cons_zero, List.set_cons_succ]
    refine q_seq e18 ?_
    refine q_region e19 rfl ?_
    refine q_op (dst := some 32) rfl (fun _ ho => ok_move ho (.tmp rfl)) ?_
    refine q_op (dst := some 6) rfl (fun _ ho => ok_assign ho (.tmp rfl)) ?_
    refine hr_region_end ?_
    try dsimp only [HAct.put, List.set_cons_zero, List.set_cons_succ]
    cases h
    exact q_ret e20 at_.at_ rfl (res1 rfl rfl) ⟨rfl, rfl⟩
end
end slices_Delete_timer_item_string_timer_item_string
namespace slices_Delete_timer_item_string_timer_item_string_w
theorem at_ : FnAt Try.prog 27 Try.f27 := slices_Delete_timer_item_string_timer_item_string.at_
theorem body : Try.f27.body = some slices_Delete_timer_item_string_timer_item_string.c0 := slices_Delete_timer_item_string_timer_item_string.body
def f (x0 : Sl) (x1 : Int) (x2 : Int) (S : HS) : Option ((Sl) × HS) := HS.del S x0 x1 x2 2
theorem snd {base : Nat} {W0 : World} {β0 : Bt} {x0 : Sl} {x1 x2 : Int} {S : HS} {p : (Sl) × HS} (h : f x0 x1 x2 S = some p) : HCall Try.prog base W0 β0 27 [(Sl.hv x0), (.int .i64 x1), (.int .i64 x2)] S (fun v S1 => v = (Sl.hv p.1) ∧ S1 = p.2) :=
  del_snd (zr := [(.str []), (.int .i64 0)]) (fun _ _ _ h => slices_Delete_timer_item_string_timer_item_string.snd h) h
end slices_Delete_timer_item_string_timer_item_string_w
namespace timer_Table_string_Stop
abbrev id : Nat := 9
theorem at_ : FnAt Try.prog 9 Try.f9 := ⟨Try.func9, by kernel_rfl⟩
noncomputable def c0 : Code := (Try.f9.body).getD .skip
noncomputable def c1 : Code := match c0 with | .seq x _ => x | _ => .skip
noncomputable def c2 : Code := match c0 with | .seq _ x => x | _ => .skip
noncomputable def c3 : Code := match c2 with | .seq x _ => x | _ => .skip
noncomputable def c4 : Code := match c2 with | .seq _ x => x | _ => .skip
noncomputable def c5 : Code := match c4 with | .seq x _ => x | _ => .skip
noncomputable def c6 : Code := match c5 with | .seq x _ => x | _ => .skip
noncomputable def c7 : Code := match c5 with | .seq _ x => x | _ => .skip
noncomputable def c8 : Code := match c7 with | .cond _ x _ => x | _ => .skip
noncomputable def c9 : Code := match c8 with | .seq x _ => x | _ => .skip
noncomputable def c10 : Code := match c8 with | .seq _ x => x | _ => .skip
noncomputable def c11 : Code := match c7 with | .cond _ _ x => x | _ => .skip
noncomputable def c12 : Code := match c4 with | .seq _ x => x | _ => .skip
noncomputable def c13 : Code := match c12 with | .seq x _ => x | _ => .skip
noncomputable def c14 : Code := match c13 with | .seq x _ => x | _ => .skip
noncomputable def c15 : Code := match c13 with | .seq _ x => x | _ => .skip
noncomputable def c16 : Code := match c15 with | .seq x _ => x | _ => .skip
noncomputable def c17 : Code := match c15 with | .seq _ x => x | _ => .skip
noncomputable def c18 : Code := match c17 with | .cond _ x _ => x | _ => .skip
noncomputable def c19 : Code := match c17 with | .cond _ _ x => x | _ => .skip
noncomputable def c20 : Code := match c12 with | .seq _ x => x | _ => .skip
noncomputable def c21 : Code := match c20 with | .seq x _ => x | _ => .skip
noncomputable def c22 : Code := match c20 with | .seq _ x => x | _ => .skip
noncomputable def c23 : Code := match c22 with | .seq x _ => x | _ => .skip
noncomputable def c24 : Code := match c22 with | .seq _ x => x | _ => .skip
theorem e0 : c0 = .seq c1 c2 := by kernel_rfl
noncomputable def r1 : Array Oper := match c1 with | .region _ x _ => x | _ => #[]
theorem e1 : c1 = .region 0 r1 false := by kernel_rfl
theorem e2 : c2 = .seq c3 c4 := by kernel_rfl
noncomputable def r3 : Array Oper := match c3 with | .region _ x _ => x | _ => #[]
theorem e3 : c3 = .region 1 r3 false := by kernel_rfl
theorem e4 : c4 = .seq c5 c12 := by kernel_rfl
theorem e5 : c5 = .seq c6 c7 := by kernel_rfl
noncomputable def r6 : Array Oper := match c6 with | .region _ x _ => x | _ => #[]
theorem e6 : c6 = .region 2 r6 false := by kernel_rfl
theorem e7 : c7 = .cond (.tmp 16) c8 c11 := by kernel_rfl
theorem e8 : c8 = .seq c9 c10 := by kernel_rfl
noncomputable def r9 : Array Oper := match c9 with | .region _ x _ => x | _ => #[]
theorem e9 : c9 = .region 3 r9 false := by kernel_rfl
theorem e10 : c10 = .ret := by kernel_rfl
theorem e11 : c11 = .skip := by kernel_rfl
theorem e12 : c12 = .seq c13 c20 := by kernel_rfl
theorem e13 : c13 = .seq c14 c15 := by kernel_rfl
noncomputable def r14 : Array Oper := match c14 with | .region _ x _ => x | _ => #[]
theorem e14 : c14 = .region 4 r14 false := by kernel_rfl
theorem e15 : c15 = .seq c16 c17 := by kernel_rfl
noncomputable def r16 : Array Oper := match c16 with | .region _ x _ => x | _ => #[]
theorem e16 : c16 = .region 5 r16 false := by kernel_rfl
theorem e17 : c17 = .cond (.tmp 28) c18 c19 := by kernel_rfl
noncomputable def r18 : Array Oper := match c18 with | .region _ x _ => x | _ => #[]
theorem e18 : c18 = .region 6 r18 false := by kernel_rfl
theorem e19 : c19 = .skip := by kernel_rfl
theorem e20 : c20 = .seq c21 c22 := by kernel_rfl
noncomputable def r21 : Array Oper := match c21 with | .region _ x _ => x | _ => #[]
theorem e21 : c21 = .region 7 r21 false := by kernel_rfl
theorem e22 : c22 = .seq c23 c24 := by kernel_rfl
noncomputable def r23 : Array Oper := match c23 with | .region _ x _ => x | _ => #[]
theorem e23 : c23 = .region 8 r23 false := by kernel_rfl
theorem e24 : c24 = .ret := by kernel_rfl
theorem body : Try.f9.body = some c0 := by kernel_rfl
section
variable {base : Nat} {W0 : World} {β0 : Bt}
def J0 (D : Dp) (H : Hd) (k : Nat) (y0 : (Option HA)) (y1 : (List UInt8)) (S : HS) : Option ((Bool) × HS) :=
  (Option.bind (y0) fun p12 =>
  (Option.bind (HS.ldM S (HA.fld p12 1)) fun p13 =>
  (Option.bind (HS.mdel S p13 (.str y1)) fun p14 =>
  some (true, p14))))
theorem J0_snd {D : Dp} {H : Hd} {k : Nat} (hD : DSound Try.prog base W0 D) (hH : HSound Try.prog base W0 β0 H)  {y0 : (Option HA)} {y1 : (List UInt8)} {S : HS} {p : (Bool) × HS} {g2 g3 g4 g5 g6 g7 g8 g9 g10 g11 g12 g13 g14 g15 g16 g17 g18 g19 g20 g21 g22 g23 g24 g25 g26 g27 g28 g29 g30 g31 g32 g33 g34 g35 g36 g37 g38 g39 g40 g41 g42 g43 g44 : HV} (h : J0 D H k y0 y1 S = some p) : HRun Try.prog base W0 β0 9 none [.code c20] ⟨[(.ptr y0), (.str y1), g2, g3, g4, g5, g6, g7, g8, g9, g10, g11, g12, g13, g14, g15, g16, g17, g18, g19, g20, g21, g22, g23, g24, g25, g26, g27, g28, g29, g30, g31, g32, g33, g34, g35, g36, g37, g38, g39, g40, g41, g42, g43, g44], []⟩ S (fun v S1 => v = (.bool p.1) ∧ S1 = p.2) := by
  unfold J0 at h
  refine q_seq e20 ?_
  refine q_region e21 rfl ?_
  refine q_op (dst := some 40) rfl (fun _ ho => ok_move ho (.tmp rfl)) ?_
  obtain ⟨p12, hp12, h⟩ := bindo h
  refine q_op (dst := some 41) rfl (fun _ ho => ok_nilCheck_p ho (.tmp rfl) hp12) ?_
  refine q_op (dst := some 42) rfl (fun _ ho => ok_fieldAddr_s ho fi60_1 (by decide) (.tmp rfl) rfl) ?_
  obtain ⟨p13, hp13, h⟩ := bindo h
  refine q_op (dst := some 43) rfl (fun _ ho => ok_load_s ho sc57 (.tmp rfl) rfl (ldM_out hp13)) ?_
  try dsimp only [HAct.put, List.set_cons_zero, List.set_cons_succ]
  refine q_op (dst := some 44) rfl (fun _ ho => ok_move ho (.tmp rfl)) ?_
  obtain ⟨p14, hp14, h⟩ := bindo h
  refine q_op (dst := none) rfl (fun _ ho => ok_delete ho rfl tu57 (keyStr tu9) (.tmp rfl) (.tmp rfl) hp14) ?_
  refine hr_region_end ?_
  try dsimp only [HAct.put, List.set_cons_zero, List.set_cons_succ]
  refine q_seq e22 ?_
  refine q_region e23 rfl ?_
  refine q_op (dst := some 4) rfl (fun _ ho => ok_assign ho (.bool _)) ?_
  refine hr_region_end ?_
  try dsimp only [HAct.put, List.set_cons_zero, List.set_cons_succ]
  cases h
  exact q_ret e24 at_.at_ rfl (res1 rfl rfl) ⟨rfl, rfl⟩
def f (D : Dp) (H : Hd) (k : Nat) (x0 : (Option HA)) (x1 : (List UInt8)) (S : HS) : Option ((Bool) × HS) :=
  (Option.bind (timer_Table_string_At.f x0 x1 S) fun p1 =>
  (if (!p1.1.2) = true then
  some (false, p1.2) else
  (Option.bind (x0) fun p3 =>
  (Option.bind (HS.ldSl p1.2 (HA.fld p3 0)) fun p4 =>
  (Option.bind (slices_BinarySearchFunc_timer_item_string_timer_item_string_timer_item_string.f D H k p4 x1 p1.1.1 (HV.fn (.func 26) [] []) p1.2) fun p5 =>
  (if p5.1.2 = true then
  (Option.bind (x0) fun p7 =>
  (Option.bind (HS.ldSl p5.2 (HA.fld p7 0)) fun p8 =>
  (Option.bind (slices_Delete_timer_item_string_timer_item_string_w.f p8 p5.1.1 (w64 (p5.1.1 + 1)) p5.2) fun p9 =>
  (Option.bind (x0) fun p10 =>
  (Option.bind (HS.sets p9.2 (HA.fld p10 0) [(Sl.hv p9.1)]) fun p11 =>
  J0 D H k x0 x1 p11))))) else
  J0 D H k x0 x1 p5.2))))))
theorem snd {D : Dp} {H : Hd} {k : Nat} {x0 : (Option HA)} {x1 : (List UInt8)} {S : HS} (hD : DSound Try.prog base W0 D) (hH : HSound Try.prog base W0 β0 H)  {p : (Bool) × HS} (h : f D H k x0 x1 S = some p) : HCall Try.prog base W0 β0 9 [(.ptr x0), (.str x1)] S (fun v S1 => v = (.bool p.1) ∧ S1 = p.2) := by
  unfold f at h
  refine HCall.of_run at_.at_ body ?_
  show HRun Try.prog base W0 β0 9 none [.code c0] ⟨[(.ptr x0), (.str x1), .tup [], .tup [], .tup [], .tup [], .tup [], .tup [], .tup [], .tup [], .tup [], .tup [], .tup [], .tup [], .tup [], .tup [], .tup [], .tup [], .tup [], .tup [], .tup [], .tup [], .tup [], .tup [], .tup [], .tup [], .tup [], .tup [], .tup [], .tup [], .tup [], .tup [], .tup [], .tup [], .tup [], .tup [], .tup [], .tup [], .tup [], .tup [], .tup [], .tup [], .tup [], .tup [], .tup []], []⟩ S _
  refine q_seq e0 ?_
  refine q_region e1 rfl ?_
  refine q_op (dst := some 4) rfl (fun _ ho => ok_assign ho (.bool _)) ?_
  refine hr_region_end ?_
  try dsimp only [HAct.put, List.set_cons_zero, List.set_cons_succ]
  refine q_seq e2 ?_
  refine q_region e3 rfl ?_
  refine q_op (dst := some 10) rfl (fun _ ho => ok_move ho (.tmp rfl)) ?_
  refine q_op (dst := some 11) rfl (fun _ ho => ok_move ho (.tmp rfl)) ?_
  obtain ⟨p1, hp1, h⟩ := bindo h
  refine q_call (dst := some 12) rfl (.func _) (.cons (.tmp rfl) (.cons (.tmp rfl) Evs.nil)) (HInv.static timer_Table_string_At.at_ timer_Table_string_At.body (timer_Table_string_At.snd  hp1)) ?_
  rintro _ _ ⟨rfl, rfl⟩
  refine q_op (dst := some 9) rfl (fun _ ho => ok_move ho (.tmp rfl)) ?_
  try dsimp only [HAct.put, List.set_cons_zero, List.set_cons_succ]
  refine q_op (dst := some 13) rfl (fun _ ho => ok_extract ho (.tmp rfl) rfl) ?_
  refine q_op (dst := some 14) rfl (fun _ ho => ok_extract ho (.tmp rfl) rfl) ?_
  refine q_op (dst := some 5) rfl (fun _ ho => ok_assign ho (.tmp rfl)) ?_
  refine q_op (dst := some 6) rfl (fun _ ho => ok_assign ho (.tmp rfl)) ?_
  refine hr_region_end ?_
  try dsimp only [HAct.put, List.set_cons_zero, List.set_cons_succ]
  refine q_seq e4 ?_
  refine q_seq e5 ?_
  refine q_region e6 rfl ?_
  refine q_op (dst := some 15) rfl (fun _ ho => ok_move ho (.tmp rfl)) ?_
  refine q_op (dst := some 16) rfl (fun _ ho => ok_not ho (.tmp rfl)) ?_
  refine hr_region_end ?_
  try dsimp only [HAct.put, List.set_cons_zero, List.set_cons_succ]
  rcases ifc h with ⟨hc2, h⟩ | ⟨hc2, h⟩
  · refine q_cond_t e7 (.tmp rfl) hc2 ?_
    refine q_seq e8 ?_
    refine q_region e9 rfl ?_
    refine q_op (dst := some 4) rfl (fun _ ho => ok_assign ho (.bool _)) ?_
    refine hr_region_end ?_
    try dsimp only [HAct.put, List.set_cons_zero, List.set_cons_succ]
    cases h
    exact q_ret e10 at_.at_ rfl (res1 rfl rfl) ⟨rfl, rfl⟩
  · refine q_cond_f e7 (.tmp rfl) (bfalse hc2) ?_
    refine q_skipc e11 ?_
    refine q_seq e12 ?_
    refine q_seq e13 ?_
    refine q_region e14 rfl ?_
    refine q_op (dst := some 18) rfl (fun _ ho => ok_move ho (.tmp rfl)) ?_
    obtain ⟨p3, hp3, h⟩ := bindo h
    refine q_op (dst := some 19) rfl (fun _ ho => ok_nilCheck_p ho (.tmp rfl) hp3) ?_
    refine q_op (dst := some 20) rfl (fun _ ho => ok_fieldAddr_s ho fi60_0 (by decide) (.tmp rfl) rfl) ?_
    obtain ⟨p4, hp4, h⟩ := bindo h
    refine q_op (dst := some 21) rfl (fun _ ho => ok_load_s ho sc58 (.tmp rfl) rfl (ldSl_out hp4)) ?_
    try dsimp only [HAct.put, List.set_cons_zero, List.set_cons_succ]
    refine q_op (dst := some 22) rfl (fun _ ho => ok_move ho (.tmp rfl)) ?_
    refine q_op (dst := some 23) rfl (fun _ ho => ok_move ho (.tmp rfl)) ?_
    refine q_op (dst := some 24) rfl (fun _ ho => ok_build (is := [0, 1]) (xs := [(.tmp 22), (.tmp 23)]) (r := [(.str x1), (.int .i64 p1.1.1)]) st63 ho rfl rfl (.cons (.tmp rfl) (.cons (.tmp rfl) Evs.nil)) rfl) ?_
    obtain ⟨p5, hp5, h⟩ := bindo h
    refine q_call (dst := some 25) rfl (.func _) (.cons (.tmp rfl) (.cons (.tmp rfl) (.cons (.func _) Evs.nil))) (HInv.static slices_BinarySearchFunc_timer_item_string_timer_item_string_timer_item_string.at_ slices_BinarySearchFunc_timer_item_string_timer_item_string_timer_item_string.body (slices_BinarySearchFunc_timer_item_string_timer_item_string_timer_item_string.snd hD hH hp5)) ?_
    rintro _ _ ⟨rfl, rfl⟩
    try dsimp only [HAct.put, List.set_cons_zero, List.set_cons_succ]
    refine q_op (dst := some 17) rfl (fun _ ho => ok_move ho (.tmp rfl)) ?_
    refine q_op (dst := some 26) rfl (fun _ ho => ok_extract ho (.tmp rfl) rfl) ?_
    refine q_op (dst := some 27) rfl (fun _ ho => ok_extract ho (.tmp rfl) rfl) ?_
    refine q_op (dst := some 7) rfl (fun _ ho => ok_assign ho (.tmp rfl)) ?_
    try dsimp only [HAct.put, List.set_cons_zero, List.set_cons_succ]
    refine q_op (dst := some 8) rfl (fun _ ho => ok_assign ho (.tmp rfl)) ?_
    refine hr_region_end ?_
    try dsimp only [HAct.put, List.set_cons_zero, List.set_cons_succ]
    refine q_seq e15 ?_
    refine q_region e16 rfl ?_
    refine q_op (dst := some 28) rfl (fun _ ho => ok_move ho (.tmp rfl)) ?_
    refine hr_region_end ?_
    try dsimp only [HAct.put, List.set_cons_zero, List.set_cons_succ]
    rcases ifc h with ⟨hc6, h⟩ | ⟨hc6, h⟩
    · refine q_cond_t e17 (.tmp rfl) hc6 ?_
      refine q_region e18 rfl ?_
      refine q_op (dst := some 29) rfl (fun _ ho => ok_move ho (.tmp rfl)) ?_
      refine q_op (dst := some 30) rfl (fun _ ho => ok_move ho (.tmp rfl)) ?_
      obtain ⟨p7, hp7, h⟩ := bindo h
      refine q_op (dst := some 31) rfl (fun _ ho => ok_nilCheck_p ho (.tmp rfl) hp7) ?_
      refine q_op (dst := some 32) rfl (fun _ ho => ok_fieldAddr_s ho fi60_0 (by decide) (.tmp rfl) rfl) ?_
      try dsimp only [HAct.put, List.set_cons_zero, List.set_cons_succ]
      obtain ⟨p8, hp8, h⟩ := bindo h
      refine q_op (dst := some 33) rfl (fun _ ho => ok_load_s ho sc58 (.tmp rfl) rfl (ldSl_out hp8)) ?_
      refine q_op (dst := some 34) rfl (fun _ ho => ok_move ho (.tmp rfl)) ?_
      refine q_op (dst := some 35) rfl (fun _ ho => ok_move ho (.tmp rfl)) ?_
      refine q_op (dst := some 36) rfl (fun _ ho => ok_ibin ho (.tmp rfl) (.int _ _) rfl) ?_
      try dsimp only [HAct.put, List.set_cons_zero, List.set_cons_succ]
      obtain ⟨p9, hp9, h⟩ := bindo h
      refine q_call (dst := some 37) rfl (.func _) (.cons (.tmp rfl) (.cons (.tmp rfl) (.cons (.tmp rfl) Evs.nil))) (HInv.static slices_Delete_timer_item_string_timer_item_string_w.at_ slices_Delete_timer_item_string_timer_item_string_w.body (slices_Delete_timer_item_string_timer_item_string_w.snd  hp9)) ?_
      rintro _ _ ⟨rfl, rfl⟩
      obtain ⟨p10, hp10, h⟩ := bindo h
      refine q_op (dst := some 38) rfl (fun _ ho => ok_nilCheck_p ho (.tmp rfl) hp10) ?_
      refine q_op (dst := some 39) rfl (fun _ ho => ok_fieldAddr_s ho fi60_0 (by decide) (.tmp rfl) rfl) ?_
      obtain ⟨p11, hp11, h⟩ := bindo h
      refine q_op (dst := none) rfl (fun _ ho => ok_store_s (v := (Sl.hv p9.1)) ho sz58 (.tmp rfl) rfl (.tmp rfl) rfl hp11) ?_
      refine hr_region_end ?_
      try dsimp only [HAct.put, List.set_cons_zero, List.set_cons_succ]
      try dsimp only [HAct.put, List.set_cons_zero, List.set_cons_succ]
      exact J0_snd hD hH h
    · refine q_cond_f e17 (.tmp rfl) (bfalse hc6) ?_
      refine q_skipc e19 ?_
      try dsimp only [HAct.put, List.set_cons_zero, List.set_cons_succ]
      exact J0_snd hD hH h
end
end timer_Table_string_Stop
namespace slices_Reverse_timer_item_string_timer_item_string
abbrev id : Nat := 53
theorem at_ : FnAt Try.prog 53 Try.f53 := ⟨Try.func53, by kernel_rfl⟩
noncomputable def c0 : Code := (Try.f53.body).getD .skip
noncomputable def c1 : Code := match c0 with | .seq x _ => x | _ => .skip
noncomputable def c2 : Code := match c0 with | .seq _ x => x | _ => .skip
noncomputable def c3 : Code := match c2 with | .block _ x => x | _ => .skip
noncomputable def c4 : Code := match c3 with | .loop x => x | _ => .skip
noncomputable def c5 : Code := match c4 with | .seq x _ => x | _ => .skip
noncomputable def c6 : Code := match c5 with | .seq x _ => x | _ => .skip
noncomputable def c7 : Code := match c5 with | .seq _ x => x | _ => .skip
noncomputable def c8 : Code := match c7 with | .cond _ x _ => x | _ => .skip
noncomputable def c9 : Code := match c7 with | .cond _ _ x => x | _ => .skip
noncomputable def c10 : Code := match c4 with | .seq _ x => x | _ => .skip
noncomputable def c11 : Code := match c10 with | .seq x _ => x | _ => .skip
noncomputable def c12 : Code := match c11 with | .block _ x => x | _ => .skip
noncomputable def c13 : Code := match c10 with | .seq _ x => x | _ => .skip
theorem e0 : c0 = .seq c1 c2 := by kernel_rfl
noncomputable def r1 : Array Oper := match c1 with | .region _ x _ => x | _ => #[]
theorem e1 : c1 = .region 0 r1 false := by kernel_rfl
theorem e2 : c2 = .block 0 c3 := by kernel_rfl
theorem e3 : c3 = .loop c4 := by kernel_rfl
theorem e4 : c4 = .seq c5 c10 := by kernel_rfl
theorem e5 : c5 = .seq c6 c7 := by kernel_rfl
noncomputable def r6 : Array Oper := match c6 with | .region _ x _ => x | _ => #[]
theorem e6 : c6 = .region 1 r6 false := by kernel_rfl
theorem e7 : c7 = .cond (.tmp 9) c8 c9 := by kernel_rfl
theorem e8 : c8 = .skip := by kernel_rfl
theorem e9 : c9 = .exit 0 := by kernel_rfl
theorem e10 : c10 = .seq c11 c13 := by kernel_rfl
theorem e11 : c11 = .block 1 c12 := by kernel_rfl
noncomputable def r12 : Array Oper := match c12 with | .region _ x _ => x | _ => #[]
theorem e12 : c12 = .region 3 r12 true := by kernel_rfl
noncomputable def r13 : Array Oper := match c13 with | .region _ x _ => x | _ => #[]
theorem e13 : c13 = .region 2 r13 false := by kernel_rfl
theorem body : Try.f53.body = some c0 := by kernel_rfl
section
variable {base : Nat} {W0 : World} {β0 : Bt}
def L0 (k : Nat) : Nat → Sl → Int → Int → HS → Option ((Unit) × HS)
  | 0, _, _, _, _ => none
  | n + 1, y0, y2, y3, S =>
    (if y2 < y3 then
    (Option.bind (HS.idx S y0 y3 2) fun p2 =>
    (Option.bind (HS.ldS S (HA.fld p2 0)) fun p3 =>
    (Option.bind (HS.ldI S .i64 (HA.fld p2 1)) fun p4 =>
    (Option.bind (HS.idx S y0 y2 2) fun p5 =>
    (Option.bind (HS.ldS S (HA.fld p5 0)) fun p6 =>
    (Option.bind (HS.ldI S .i64 (HA.fld p5 1)) fun p7 =>
    (Option.bind (HS.idx S y0 y2 2) fun p8 =>
    (Option.bind (HS.sets S p8 [(.str p3), (.int .i64 p4)]) fun p9 =>
    (Option.bind (HS.idx p9 y0 y3 2) fun p10 =>
    (Option.bind (HS.sets p9 p10 [(.str p6), (.int .i64 p7)]) fun p11 =>
    (L0 k n) y0 (w64 (y2 + 1)) (w64 (y3 - 1)) p11)))))))))) else
    some ((), S))
theorem L0_snd {k : Nat}  : ∀ {n : Nat} ⦃y0 : Sl⦄ ⦃y2 : Int⦄ ⦃y3 : Int⦄ ⦃S : HS⦄ ⦃p : (Unit) × HS⦄ ⦃g1 g4 g5 g6 g7 g8 g9 g10 g11 g12 g13 g14 g15 g16 g17 g18 g19 g20 g21 g22 g23 g24 g25 g26 g27 : HV⦄, L0 k n y0 y2 y3 S = some p → HRun Try.prog base W0 β0 53 none [.inLoop c4, .inBlock 0] ⟨[(Sl.hv y0), g1, (.int .i64 y2), (.int .i64 y3), g4, g5, g6, g7, g8, g9, g10, g11, g12, g13, g14, g15, g16, g17, g18, g19, g20, g21, g22, g23, g24, g25, g26, g27], []⟩ S (fun v S1 => v = (.tup []) ∧ S1 = p.2) := by
  intro n
  induction n with
  | zero => intro _ _ _ _ _ _ _ _ _ _ _ _ _ _ _ _ _ _ _ _ _ _ _ _ _ _ _ _ _ _ h; cases h
  | succ n ih =>
    intro y0 y2 y3 S p g1 g4 g5 g6 g7 g8 g9 g10 g11 g12 g13 g14 g15 g16 g17 g18 g19 g20 g21 g22 g23 g24 g25 g26 g27 h
    simp only [L0] at h
    refine hr_inLoop ?_
    refine q_seq e4 ?_
    refine q_seq e5 ?_
    refine q_region e6 rfl ?_
    refine q_op (dst := some 7) rfl (fun _ ho => ok_move ho (.tmp rfl)) ?_
    refine q_op (dst := some 8) rfl (fun _ ho => ok_move ho (.tmp rfl)) ?_
    refine q_op (dst := some 9) rfl (fun _ ho => ok_ibin ho (.tmp rfl) (.tmp rfl) rfl) ?_
    refine hr_region_end ?_
    try dsimp only [HAct.put, List.set_cons_zero, List.set_cons_succ]
    rcases ifc h with ⟨hc1, h⟩ | ⟨hc1, h⟩
    · refine q_cond_t e7 (.tmp rfl) (decide_eq_true hc1) ?_
      refine q_skipc e8 ?_
      refine q_seq e10 ?_
      refine q_block e11 ?_
      refine x_start (cls := [0, 0, 0, 0, 0, 0, 1, 1, 0, 0, 1, 1, 1, 2, 1, 2]) (rk := [0, 1, 12, 13, 2, 3, 4, 5, 6, 7, 8, 9, 10, 11, 14, 15]) e12 (by kernel_rfl) ?_
      refine x_go (f_op (dst := some 14) (ts := [0]) rfl (by intro _ _ h; cases h) (by kernel_rfl) (fun _ _ ho => ok_move ho (.tmp rfl))) rfl ?_
      refine x_go (f_op (dst := some 15) (ts := [2]) rfl (by intro _ _ h; cases h) (by kernel_rfl) (fun _ _ ho => ok_move ho (.tmp rfl))) rfl ?_
      refine x_go (f_op (dst := some 16) (ts := [0]) rfl (by intro _ _ h; cases h) (by kernel_rfl) (fun _ _ ho => ok_move ho (.tmp rfl))) rfl ?_
      refine x_go (f_op (dst := some 17) (ts := [3]) rfl (by intro _ _ h; cases h) (by kernel_rfl) (fun _ _ ho => ok_move ho (.tmp rfl))) rfl ?_
      try dsimp only [HAct.put, List.set_cons_zero, List.set_cons_succ]
      refine x_go (f_op (dst := some 18) (ts := [0]) rfl (by intro _ _ h; cases h) (by kernel_rfl) (fun _ _ ho => ok_move ho (.tmp rfl))) rfl ?_
      refine x_go (f_op (dst := some 19) (ts := [3]) rfl (by intro _ _ h; cases h) (by kernel_rfl) (fun _ _ ho => ok_move ho (.tmp rfl))) rfl ?_
      obtain ⟨p2, hp2, h⟩ := bindo h
      refine x_go (r_op (dst := some 20) (ts := [18, 19]) rfl (by intro _ _ h; cases h) (by kernel_rfl) (fun _ ho => ok_indexAddr (s := y0) ho tu58 sz63 (.tmp rfl) (.tmp rfl) hp2)) rfl ?_
      obtain ⟨p3, hp3, h⟩ := bindo h
      obtain ⟨p4, hp4, h⟩ := bindo h
      refine x_go (r_op (dst := some 21) (ts := [20]) rfl (by intro _ _ h; cases h) (by kernel_rfl) (fun _ ho => ok_load_a (vs := [(.str p3), (.int .i64 p4)]) ho ia63 (.tmp rfl) rfl ⟨ldS_out hp3, ldI_out hp4, trivial⟩ (by simp))) rfl ?_
      try dsimp only [HAct.put, List.set_cons_zero, List.set_cons_succ]
      refine x_go (f_op (dst := some 22) (ts := [0]) rfl (by intro _ _ h; cases h) (by kernel_rfl) (fun _ _ ho => ok_move ho (.tmp rfl))) rfl ?_
      refine x_go (f_op (dst := some 23) (ts := [2]) rfl (by intro _ _ h; cases h) (by kernel_rfl) (fun _ _ ho => ok_move ho (.tmp rfl))) rfl ?_
      obtain ⟨p5, hp5, h⟩ := bindo h
      refine x_go (r_op (dst := some 24) (ts := [22, 23]) rfl (by intro _ _ h; cases h) (by kernel_rfl) (fun _ ho => ok_indexAddr (s := y0) ho tu58 sz63 (.tmp rfl) (.tmp rfl) hp5)) rfl ?_
      obtain ⟨p6, hp6, h⟩ := bindo h
      obtain ⟨p7, hp7, h⟩ := bindo h
      refine x_go (r_op (dst := some 25) (ts := [24]) rfl (by intro _ _ h; cases h) (by kernel_rfl) (fun _ ho => ok_load_a (vs := [(.str p6), (.int .i64 p7)]) ho ia63 (.tmp rfl) rfl ⟨ldS_out hp6, ldI_out hp7, trivial⟩ (by simp))) rfl ?_
      try dsimp only [HAct.put, List.set_cons_zero, List.set_cons_succ]
      obtain ⟨p8, hp8, h⟩ := bindo h
      refine x_go (r_op (dst := some 26) (ts := [14, 15]) rfl (by intro _ _ h; cases h) (by kernel_rfl) (fun _ ho => ok_indexAddr (s := y0) ho tu58 sz63 (.tmp rfl) (.tmp rfl) hp8)) rfl ?_
      obtain ⟨p9, hp9, h⟩ := bindo h
      refine x_go (e_op (dst := none) (ts := [26, 21]) rfl (by intro _ _ h; cases h) (by kernel_rfl) (fun _ ho => ok_store_s (v := (.agg [(.str p3), (.int .i64 p4)])) ho sz63 (.tmp rfl) rfl (.tmp rfl) rfl hp9)) rfl ?_
      obtain ⟨p10, hp10, h⟩ := bindo h
      refine x_go (r_op (dst := some 27) (ts := [16, 17]) rfl (by intro _ _ h; cases h) (by kernel_rfl) (fun _ ho => ok_indexAddr (s := y0) ho tu58 sz63 (.tmp rfl) (.tmp rfl) hp10)) rfl ?_
      obtain ⟨p11, hp11, h⟩ := bindo h
      refine x_go (e_op (dst := none) (ts := [27, 25]) rfl (by intro _ _ h; cases h) (by kernel_rfl) (fun _ ho => ok_store_s (v := (.agg [(.str p6), (.int .i64 p7)])) ho sz63 (.tmp rfl) rfl (.tmp rfl) rfl hp11)) rfl ?_
      refine x_rest rfl ?_
      refine hr_region_end ?_
      try dsimp only [HAct.put, List.set_cons_zero, List.set_cons_succ]
      refine hr_inBlock ?_
      refine q_region e13 rfl ?_
      refine q_op (dst := some 10) rfl (fun _ ho => ok_move ho (.tmp rfl)) ?_
      refine q_op (dst := some 11) rfl (fun _ ho => ok_ibin ho (.tmp rfl) (.int _ _) rfl) ?_
      refine q_op (dst := some 12) rfl (fun _ ho => ok_move ho (.tmp rfl)) ?_
      refine q_op (dst := some 13) rfl (fun _ ho => ok_ibin ho (.tmp rfl) (.int _ _) rfl) ?_
      try dsimp only [HAct.put, List.set_cons_zero, List.set_cons_succ]
      refine q_op (dst := some 2) rfl (fun _ ho => ok_assign ho (.tmp rfl)) ?_
      refine q_op (dst := some 3) rfl (fun _ ho => ok_assign ho (.tmp rfl)) ?_
      refine hr_region_end ?_
      try dsimp only [HAct.put, List.set_cons_zero, List.set_cons_succ]
      try dsimp only [HAct.put, List.set_cons_zero, List.set_cons_succ]
      exact ih h
    · refine q_cond_f e7 (.tmp rfl) (decide_eq_false hc1) ?_
      refine q_exit e9 rfl ?_
      cases h
      exact q_end at_.at_ rfl (res0 rfl) ⟨rfl, rfl⟩
def f (k : Nat) (x0 : Sl) (S : HS) : Option ((Unit) × HS) :=
  L0 k k x0 0 (w64 ((Sl.len x0 : Int) - 1)) S
theorem snd {k : Nat} {x0 : Sl} {S : HS}  {p : (Unit) × HS} (h : f k x0 S = some p) : HCall Try.prog base W0 β0 53 [(Sl.hv x0)] S (fun v S1 => v = (.tup []) ∧ S1 = p.2) := by
  unfold f at h
  refine HCall.of_run at_.at_ body ?_
  show HRun Try.prog base W0 β0 53 none [.code c0] ⟨[(Sl.hv x0), .tup [], .tup [], .tup [], .tup [], .tup [], .tup [], .tup [], .tup [], .tup [], .tup [], .tup [], .tup [], .tup [], .tup [], .tup [], .tup [], .tup [], .tup [], .tup [], .tup [], .tup [], .tup [], .tup [], .tup [], .tup [], .tup [], .tup []], []⟩ S _
  refine q_seq e0 ?_
  refine q_region e1 rfl ?_
  refine q_op (dst := some 4) rfl (fun _ ho => ok_move ho (.tmp rfl)) ?_
  refine q_op (dst := some 5) rfl (fun _ ho => ok_len_sl (q := Sl.a x0) (n := Sl.len x0) (z := Sl.cap x0) ho rfl tu58 (.tmp rfl)) ?_
  refine q_op (dst := some 6) rfl (fun _ ho => ok_ibin ho (.tmp rfl) (.int _ _) rfl) ?_
  refine q_op (dst := some 2) rfl (fun _ ho => ok_assign ho (.int _ _)) ?_
  try dsimp only [HAct.put, List.set_cons_zero, List.set_cons_succ]
  refine q_op (dst := some 3) rfl (fun _ ho => ok_assign ho (.tmp rfl)) ?_
  refine hr_region_end ?_
  try dsimp only [HAct.put, List.set_cons_zero, List.set_cons_succ]
  refine q_block e2 ?_
  refine q_loop e3 ?_
  try dsimp only [HAct.put, List.set_cons_zero, List.set_cons_succ]
  exact L0_snd  h
end
end slices_Reverse_timer_item_string_timer_item_string
namespace slices_rotateLeft_timer_item_string
abbrev id : Nat := 51
theorem at_ : FnAt Try.prog 51 Try.f51 := ⟨Try.func51, by kernel_rfl⟩
noncomputable def c0 : Code := (Try.f51.body).getD .skip
noncomputable def c1 : Code := match c0 with | .seq x _ => x | _ => .skip
noncomputable def c2 : Code := match c0 with | .seq _ x => x | _ => .skip
noncomputable def c3 : Code := match c2 with | .seq x _ => x | _ => .skip
noncomputable def c4 : Code := match c2 with | .seq _ x => x | _ => .skip
theorem e0 : c0 = .seq c1 c2 := by kernel_rfl
noncomputable def r1 : Array Oper := match c1 with | .region _ x _ => x | _ => #[]
theorem e1 : c1 = .region 0 r1 false := by kernel_rfl
theorem e2 : c2 = .seq c3 c4 := by kernel_rfl
noncomputable def r3 : Array Oper := match c3 with | .region _ x _ => x | _ => #[]
theorem e3 : c3 = .region 1 r3 false := by kernel_rfl
noncomputable def r4 : Array Oper := match c4 with | .region _ x _ => x | _ => #[]
theorem e4 : c4 = .region 2 r4 false := by kernel_rfl
theorem body : Try.f51.body = some c0 := by kernel_rfl
section
variable {base : Nat} {W0 : World} {β0 : Bt}
def f (k : Nat) (x0 : Sl) (x1 : Int) (S : HS) : Option ((Unit) × HS) :=
  (Option.bind (HS.cut S x0 0 x1 2) fun p1 =>
  (Option.bind (slices_Reverse_timer_item_string_timer_item_string.f k p1 S) fun p2 =>
  (Option.bind (HS.cut p2.2 x0 x1 (Sl.len x0 : Int) 2) fun p3 =>
  (Option.bind (slices_Reverse_timer_item_string_timer_item_string.f k p3 p2.2) fun p4 =>
  (Option.bind (slices_Reverse_timer_item_string_timer_item_string.f k x0 p4.2) fun p5 =>
  some ((), p5.2))))))
theorem snd {k : Nat} {x0 : Sl} {x1 : Int} {S : HS}  {p : (Unit) × HS} (h : f k x0 x1 S = some p) : HCall Try.prog base W0 β0 51 [(Sl.hv x0), (.int .i64 x1)] S (fun v S1 => v = (.tup []) ∧ S1 = p.2) := by
  unfold f at h
  refine HCall.of_run at_.at_ body ?_
  show HRun Try.prog base W0 β0 51 none [.code c0] ⟨[(Sl.hv x0), (.int .i64 x1), .tup [], .tup [], .tup [], .tup [], .tup [], .tup [], .tup [], .tup [], .tup [], .tup [], .tup [], .tup []], []⟩ S _
  refine q_seq e0 ?_
  refine q_region e1 rfl ?_
  refine q_op (dst := some 4) rfl (fun _ ho => ok_move ho (.tmp rfl)) ?_
  refine q_op (dst := some 5) rfl (fun _ ho => ok_move ho (.tmp rfl)) ?_
  obtain ⟨p1, hp1, h⟩ := bindo h
  refine q_op (dst := some 6) rfl (fun _ ho => ok_slice (kl := .i64) (kh := .i64) (s := x0) (l := 0) (h := x1) ho tu58 si63 (.tmp rfl) (.inl ⟨rfl, rfl⟩) (.inr ⟨_, rfl, (.tmp rfl)⟩) hp1) ?_
  obtain ⟨p2, hp2, h⟩ := bindo h
  refine q_call (dst := some 7) rfl (.func _) (.cons (.tmp rfl) Evs.nil) (HInv.static slices_Reverse_timer_item_string_timer_item_string.at_ slices_Reverse_timer_item_string_timer_item_string.body (slices_Reverse_timer_item_string_timer_item_string.snd  hp2)) ?_
  rintro _ _ ⟨rfl, rfl⟩
  refine hr_region_end ?_
  try dsimp only [HAct.put, List.set_cons_zero, List.set_cons_succ]
  refine q_seq e2 ?_
  refine q_region e3 rfl ?_
  refine q_op (dst := some 8) rfl (fun _ ho => ok_move ho (.tmp rfl)) ?_
  refine q_op (dst := some 9) rfl (fun _ ho => ok_move ho (.tmp rfl)) ?_
  obtain ⟨p3, hp3, h⟩ := bindo h
  refine q_op (dst := some 10) rfl (fun _ ho => ok_slice (kl := .i64) (kh := .i64) (s := x0) (l := x1) (h := (Sl.len x0 : Int)) ho tu58 si63 (.tmp rfl) (.inr ⟨_, rfl, (.tmp rfl)⟩) (.inl ⟨rfl, rfl⟩) hp3) ?_
  obtain ⟨p4, hp4, h⟩ := bindo h
  refine q_call (dst := some 11) rfl (.func _) (.cons (.tmp rfl) Evs.nil) (HInv.static slices_Reverse_timer_item_string_timer_item_string.at_ slices_Reverse_timer_item_string_timer_item_string.body (slices_Reverse_timer_item_string_timer_item_string.snd  hp4)) ?_
  rintro _ _ ⟨rfl, rfl⟩
  refine hr_region_end ?_
  try dsimp only [HAct.put, List.set_cons_zero, List.set_cons_succ]
  refine q_region e4 rfl ?_
  refine q_op (dst := some 12) rfl (fun _ ho => ok_move ho (.tmp rfl)) ?_
  obtain ⟨p5, hp5, h⟩ := bindo h
  refine q_call (dst := some 13) rfl (.func _) (.cons (.tmp rfl) Evs.nil) (HInv.static slices_Reverse_timer_item_string_timer_item_string.at_ slices_Reverse_timer_item_string_timer_item_string.body (slices_Reverse_timer_item_string_timer_item_string.snd  hp5)) ?_
  rintro _ _ ⟨rfl, rfl⟩
  refine hr_region_end ?_
  try dsimp only [HAct.put, List.set_cons_zero, List.set_cons_succ]
  cases h
  exact q_end at_.at_ rfl (res0 rfl) ⟨rfl, rfl⟩
end
end slices_rotateLeft_timer_item_string
namespace slices_rotateRight_timer_item_string
abbrev id : Nat := 42
theorem at_ : FnAt Try.prog 42 Try.f42 := ⟨Try.func42, by kernel_rfl⟩
noncomputable def c0 : Code := (Try.f42.body).getD .skip
noncomputable def r0 : Array Oper := match c0 with | .region _ x _ => x | _ => #[]
theorem e0 : c0 = .region 0 r0 false := by kernel_rfl
theorem body : Try.f42.body = some c0 := by kernel_rfl
section
variable {base : Nat} {W0 : World} {β0 : Bt}
def f (k : Nat) (x0 : Sl) (x1 : Int) (S : HS) : Option ((Unit) × HS) :=
  (Option.bind (slices_rotateLeft_timer_item_string.f k x0 (w64 ((Sl.len x0 : Int) - x1)) S) fun p1 =>
  some ((), p1.2))
theorem snd {k : Nat} {x0 : Sl} {x1 : Int} {S : HS}  {p : (Unit) × HS} (h : f k x0 x1 S = some p) : HCall Try.prog base W0 β0 42 [(Sl.hv x0), (.int .i64 x1)] S (fun v S1 => v = (.tup []) ∧ S1 = p.2) := by
  unfold f at h
  refine HCall.of_run at_.at_ body ?_
  show HRun Try.prog base W0 β0 42 none [.code c0] ⟨[(Sl.hv x0), (.int .i64 x1), .tup [], .tup [], .tup [], .tup [], .tup [], .tup [], .tup [], .tup []], []⟩ S _
  refine q_region e0 rfl ?_
  refine q_op (dst := some 4) rfl (fun _ ho => ok_move ho (.tmp rfl)) ?_
  refine q_op (dst := some 5) rfl (fun _ ho => ok_move ho (.tmp rfl)) ?_
  refine q_op (dst := some 6) rfl (fun _ ho => ok_len_sl (q := Sl.a x0) (n := Sl.len x0) (z := Sl.cap x0) ho rfl tu58 (.tmp rfl)) ?_
  refine q_op (dst := some 7) rfl (fun _ ho => ok_move ho (.tmp rfl)) ?_
  try dsimp only [HAct.put, List.set_cons_zero, List.set_cons_succ]
  refine q_op (dst := some 8) rfl (fun _ ho => ok_ibin ho (.tmp rfl) (.tmp rfl) rfl) ?_
  obtain ⟨p1, hp1, h⟩ := bindo h
  refine q_call (dst := some 9) rfl (.func _) (.cons (.tmp rfl) (.cons (.tmp rfl) Evs.nil)) (HInv.static slices_rotateLeft_timer_item_string.at_ slices_rotateLeft_timer_item_string.body (slices_rotateLeft_timer_item_string.snd  hp1)) ?_
  rintro _ _ ⟨rfl, rfl⟩
  refine hr_region_end ?_
  try dsimp only [HAct.put, List.set_cons_zero, List.set_cons_succ]
  cases h
  exact q_end at_.at_ rfl (res0 rfl) ⟨rfl, rfl⟩
end
end slices_rotateRight_timer_item_string
namespace slices_Insert_timer_item_string_timer_item_string
abbrev id : Nat := 30
theorem at_ : FnAt Try.prog 30 Try.f30 := ⟨Try.func30, by kernel_rfl⟩
noncomputable def c0 : Code := (Try.f30.body).getD .skip
noncomputable def c1 : Code := match c0 with | .seq x _ => x | _ => .skip
noncomputable def c2 : Code := match c0 with | .seq _ x => x | _ => .skip
noncomputable def c3 : Code := match c2 with | .seq x _ => x | _ => .skip
noncomputable def c4 : Code := match c2 with | .seq _ x => x | _ => .skip
noncomputable def c5 : Code := match c4 with | .seq x _ => x | _ => .skip
noncomputable def c6 : Code := match c4 with | .seq _ x => x | _ => .skip
noncomputable def c7 : Code := match c6 with | .seq x _ => x | _ => .skip
noncomputable def c8 : Code := match c7 with | .seq x _ => x | _ => .skip
noncomputable def c9 : Code := match c7 with | .seq _ x => x | _ => .skip
noncomputable def c10 : Code := match c9 with | .cond _ x _ => x | _ => .skip
noncomputable def c11 : Code := match c10 with | .seq x _ => x | _ => .skip
noncomputable def c12 : Code := match c10 with | .seq _ x => x | _ => .skip
noncomputable def c13 : Code := match c9 with | .cond _ _ x => x | _ => .skip
noncomputable def c14 : Code := match c6 with | .seq _ x => x | _ => .skip
noncomputable def c15 : Code := match c14 with | .seq x _ => x | _ => .skip
noncomputable def c16 : Code := match c14 with | .seq _ x => x | _ => .skip
noncomputable def c17 : Code := match c16 with | .seq x _ => x | _ => .skip
noncomputable def c18 : Code := match c17 with | .seq x _ => x | _ => .skip
noncomputable def c19 : Code := match c17 with | .seq _ x => x | _ => .skip
noncomputable def c20 : Code := match c19 with | .cond _ x _ => x | _ => .skip
noncomputable def c21 : Code := match c20 with | .seq x _ => x | _ => .skip
noncomputable def c22 : Code := match c20 with | .seq _ x => x | _ => .skip
noncomputable def c23 : Code := match c19 with | .cond _ _ x => x | _ => .skip
noncomputable def c24 : Code := match c16 with | .seq _ x => x | _ => .skip
noncomputable def c25 : Code := match c24 with | .seq x _ => x | _ => .skip
noncomputable def c26 : Code := match c25 with | .seq x _ => x | _ => .skip
noncomputable def c27 : Code := match c25 with | .seq _ x => x | _ => .skip
noncomputable def c28 : Code := match c27 with | .cond _ x _ => x | _ => .skip
noncomputable def c29 : Code := match c28 with | .seq x _ => x | _ => .skip
noncomputable def c30 : Code := match c28 with | .seq _ x => x | _ => .skip
noncomputable def c31 : Code := match c30 with | .seq x _ => x | _ => .skip
noncomputable def c32 : Code := match c30 with | .seq _ x => x | _ => .skip
noncomputable def c33 : Code := match c32 with | .seq x _ => x | _ => .skip
noncomputable def c34 : Code := match c32 with | .seq _ x => x | _ => .skip
noncomputable def c35 : Code := match c34 with | .seq x _ => x | _ => .skip
noncomputable def c36 : Code := match c34 with | .seq _ x => x | _ => .skip
noncomputable def c37 : Code := match c27 with | .cond _ _ x => x | _ => .skip
noncomputable def c38 : Code := match c24 with | .seq _ x => x | _ => .skip
noncomputable def c39 : Code := match c38 with | .seq x _ => x | _ => .skip
noncomputable def c40 : Code := match c38 with | .seq _ x => x | _ => .skip
noncomputable def c41 : Code := match c40 with | .seq x _ => x | _ => .skip
noncomputable def c42 : Code := match c41 with | .seq x _ => x | _ => .skip
noncomputable def c43 : Code := match c41 with | .seq _ x => x | _ => .skip
noncomputable def c44 : Code := match c43 with | .cond _ x _ => x | _ => .skip
noncomputable def c45 : Code := match c44 with | .seq x _ => x | _ => .skip
noncomputable def c46 : Code := match c44 with | .seq _ x => x | _ => .skip
noncomputable def c47 : Code := match c46 with | .seq x _ => x | _ => .skip
noncomputable def c48 : Code := match c46 with | .seq _ x => x | _ => .skip
noncomputable def c49 : Code := match c48 with | .seq x _ => x | _ => .skip
noncomputable def c50 : Code := match c48 with | .seq _ x => x | _ => .skip
noncomputable def c51 : Code := match c43 with | .cond _ _ x => x | _ => .skip
noncomputable def c52 : Code := match c40 with | .seq _ x => x | _ => .skip
noncomputable def c53 : Code := match c52 with | .seq x _ => x | _ => .skip
noncomputable def c54 : Code := match c52 with | .seq _ x => x | _ => .skip
noncomputable def c55 : Code := match c54 with | .seq x _ => x | _ => .skip
noncomputable def c56 : Code := match c54 with | .seq _ x => x | _ => .skip
noncomputable def c57 : Code := match c56 with | .seq x _ => x | _ => .skip
noncomputable def c58 : Code := match c56 with | .seq _ x => x | _ => .skip
theorem e0 : c0 = .seq c1 c2 := by kernel_rfl
noncomputable def r1 : Array Oper := match c1 with | .region _ x _ => x | _ => #[]
theorem e1 : c1 = .region 0 r1 false := by kernel_rfl
theorem e2 : c2 = .seq c3 c4 := by kernel_rfl
noncomputable def r3 : Array Oper := match c3 with | .region _ x _ => x | _ => #[]
theorem e3 : c3 = .region 1 r3 false := by kernel_rfl
theorem e4 : c4 = .seq c5 c6 := by kernel_rfl
noncomputable def r5 : Array Oper := match c5 with | .region _ x _ => x | _ => #[]
theorem e5 : c5 = .region 2 r5 false := by kernel_rfl
theorem e6 : c6 = .seq c7 c14 := by kernel_rfl
theorem e7 : c7 = .seq c8 c9 := by kernel_rfl
noncomputable def r8 : Array Oper := match c8 with | .region _ x _ => x | _ => #[]
theorem e8 : c8 = .region 3 r8 false := by kernel_rfl
theorem e9 : c9 = .cond (.tmp 16) c10 c13 := by kernel_rfl
theorem e10 : c10 = .seq c11 c12 := by kernel_rfl
noncomputable def r11 : Array Oper := match c11 with | .region _ x _ => x | _ => #[]
theorem e11 : c11 = .region 4 r11 false := by kernel_rfl
theorem e12 : c12 = .ret := by kernel_rfl
theorem e13 : c13 = .skip := by kernel_rfl
theorem e14 : c14 = .seq c15 c16 := by kernel_rfl
noncomputable def r15 : Array Oper := match c15 with | .region _ x _ => x | _ => #[]
theorem e15 : c15 = .region 5 r15 false := by kernel_rfl
theorem e16 : c16 = .seq c17 c24 := by kernel_rfl
theorem e17 : c17 = .seq c18 c19 := by kernel_rfl
noncomputable def r18 : Array Oper := match c18 with | .region _ x _ => x | _ => #[]
theorem e18 : c18 = .region 6 r18 false := by kernel_rfl
theorem e19 : c19 = .cond (.tmp 22) c20 c23 := by kernel_rfl
theorem e20 : c20 = .seq c21 c22 := by kernel_rfl
noncomputable def r21 : Array Oper := match c21 with | .region _ x _ => x | _ => #[]
theorem e21 : c21 = .region 7 r21 false := by kernel_rfl
theorem e22 : c22 = .ret := by kernel_rfl
theorem e23 : c23 = .skip := by kernel_rfl
theorem e24 : c24 = .seq c25 c38 := by kernel_rfl
theorem e25 : c25 = .seq c26 c27 := by kernel_rfl
noncomputable def r26 : Array Oper := match c26 with | .region _ x _ => x | _ => #[]
theorem e26 : c26 = .region 8 r26 false := by kernel_rfl
theorem e27 : c27 = .cond (.tmp 31) c28 c37 := by kernel_rfl
theorem e28 : c28 = .seq c29 c30 := by kernel_rfl
noncomputable def r29 : Array Oper := match c29 with | .region _ x _ => x | _ => #[]
theorem e29 : c29 = .region 9 r29 false := by kernel_rfl
theorem e30 : c30 = .seq c31 c32 := by kernel_rfl
noncomputable def r31 : Array Oper := match c31 with | .region _ x _ => x | _ => #[]
theorem e31 : c31 = .region 10 r31 false := by kernel_rfl
theorem e32 : c32 = .seq c33 c34 := by kernel_rfl
noncomputable def r33 : Array Oper := match c33 with | .region _ x _ => x | _ => #[]
theorem e33 : c33 = .region 11 r33 true := by kernel_rfl
theorem e34 : c34 = .seq c35 c36 := by kernel_rfl
noncomputable def r35 : Array Oper := match c35 with | .region _ x _ => x | _ => #[]
theorem e35 : c35 = .region 12 r35 false := by kernel_rfl
theorem e36 : c36 = .ret := by kernel_rfl
theorem e37 : c37 = .skip := by kernel_rfl
theorem e38 : c38 = .seq c39 c40 := by kernel_rfl
noncomputable def r39 : Array Oper := match c39 with | .region _ x _ => x | _ => #[]
theorem e39 : c39 = .region 13 r39 false := by kernel_rfl
theorem e40 : c40 = .seq c41 c52 := by kernel_rfl
theorem e41 : c41 = .seq c42 c43 := by kernel_rfl
noncomputable def r42 : Array Oper := match c42 with | .region _ x _ => x | _ => #[]
theorem e42 : c42 = .region 14 r42 false := by kernel_rfl
theorem e43 : c43 = .cond (.tmp 68) c44 c51 := by kernel_rfl
theorem e44 : c44 = .seq c45 c46 := by kernel_rfl
noncomputable def r45 : Array Oper := match c45 with | .region _ x _ => x | _ => #[]
theorem e45 : c45 = .region 15 r45 true := by kernel_rfl
theorem e46 : c46 = .seq c47 c48 := by kernel_rfl
noncomputable def r47 : Array Oper := match c47 with | .region _ x _ => x | _ => #[]
theorem e47 : c47 = .region 16 r47 false := by kernel_rfl
theorem e48 : c48 = .seq c49 c50 := by kernel_rfl
noncomputable def r49 : Array Oper := match c49 with | .region _ x _ => x | _ => #[]
theorem e49 : c49 = .region 17 r49 false := by kernel_rfl
theorem e50 : c50 = .ret := by kernel_rfl
theorem e51 : c51 = .skip := by kernel_rfl
theorem e52 : c52 = .seq c53 c54 := by kernel_rfl
noncomputable def r53 : Array Oper := match c53 with | .region _ x _ => x | _ => #[]
theorem e53 : c53 = .region 18 r53 false := by kernel_rfl
theorem e54 : c54 = .seq c55 c56 := by kernel_rfl
noncomputable def r55 : Array Oper := match c55 with | .region _ x _ => x | _ => #[]
theorem e55 : c55 = .region 19 r55 false := by kernel_rfl
theorem e56 : c56 = .seq c57 c58 := by kernel_rfl
noncomputable def r57 : Array Oper := match c57 with | .region _ x _ => x | _ => #[]
theorem e57 : c57 = .region 20 r57 false := by kernel_rfl
theorem e58 : c58 = .ret := by kernel_rfl
theorem body : Try.f30.body = some c0 := by kernel_rfl
section
variable {base : Nat} {W0 : World} {β0 : Bt}
def f (k : Nat) (x0 : Sl) (x1 : Int) (x2 : Sl) (S : HS) : Option ((Sl) × HS) :=
  (Option.bind (HS.cut S x0 x1 (Sl.len x0 : Int) 2) fun p1 =>
  (if (Sl.len x2 : Int) = 0 then
  some (x0, S) else
  (if x1 = (Sl.len x0 : Int) then
  (Option.bind (HS.rows S x2 2) fun p4 =>
  (Option.bind (HS.app S x0 p4 2) fun p5 =>
  some ((p5.1), (p5.2)))) else
  (Option.bind (Sl.capOf x0) fun p6 =>
  (if (w64 ((Sl.len x0 : Int) + (Sl.len x2 : Int))) > p6 then
  (Option.bind (HS.cut S x0 0 x1 2) fun p8 =>
  (Option.bind (HS.appZ S p8 (w64 ((w64 ((Sl.len x0 : Int) + (Sl.len x2 : Int))) - x1)) [(.str []), (.int .i64 0)] 2) fun p9 =>
  (Option.bind (HS.cut (p9.2) (p9.1) x1 (Sl.len (p9.1) : Int) 2) fun p10 =>
  (Option.bind (HS.rows (p9.2) x2 2) fun p11 =>
  (Option.bind (HS.over (p9.2) p10 (List.take (Sl.len p10) p11) 2) fun p12 =>
  (Option.bind (HS.cut p12 (p9.1) (w64 (x1 + (Sl.len x2 : Int))) (Sl.len (p9.1) : Int) 2) fun p13 =>
  (Option.bind (HS.cut p12 x0 x1 (Sl.len x0 : Int) 2) fun p14 =>
  (Option.bind (HS.rows p12 p14 2) fun p15 =>
  (Option.bind (HS.over p12 p13 (List.take (Sl.len p13) p15) 2) fun p16 =>
  some ((p9.1), p16)))))))))) else
  (Option.bind (HS.cut S x0 0 (w64 ((Sl.len x0 : Int) + (Sl.len x2 : Int))) 2) fun p17 =>
  (Option.bind (HS.cut S p17 (w64 (x1 + (Sl.len x2 : Int))) (Sl.len p17 : Int) 2) fun p18 =>
  (Option.bind (HS.ovl S x2 p18) fun p19 =>
  (if (!p19) = true then
  (Option.bind (HS.cut S p17 (w64 (x1 + (Sl.len x2 : Int))) (Sl.len p17 : Int) 2) fun p21 =>
  (Option.bind (HS.cut S p17 x1 (Sl.len p17 : Int) 2) fun p22 =>
  (Option.bind (HS.rows S p22 2) fun p23 =>
  (Option.bind (HS.over S p21 (List.take (Sl.len p21) p23) 2) fun p24 =>
  (Option.bind (HS.cut p24 p17 x1 (Sl.len p17 : Int) 2) fun p25 =>
  (Option.bind (HS.rows p24 x2 2) fun p26 =>
  (Option.bind (HS.over p24 p25 (List.take (Sl.len p25) p26) 2) fun p27 =>
  some (p17, p27)))))))) else
  (Option.bind (HS.cut S p17 (Sl.len x0 : Int) (Sl.len p17 : Int) 2) fun p28 =>
  (Option.bind (HS.rows S x2 2) fun p29 =>
  (Option.bind (HS.over S p28 (List.take (Sl.len p28) p29) 2) fun p30 =>
  (Option.bind (HS.cut p30 p17 x1 (Sl.len p17 : Int) 2) fun p31 =>
  (Option.bind (slices_rotateRight_timer_item_string.f k p31 (Sl.len x2 : Int) p30) fun p32 =>
  some (p17, p32.2)))))))))))))))
theorem snd {k : Nat} {x0 : Sl} {x1 : Int} {x2 : Sl} {S : HS}  {p : (Sl) × HS} (h : f k x0 x1 x2 S = some p) : HCall Try.prog base W0 β0 30 [(Sl.hv x0), (.int .i64 x1), (Sl.hv x2)] S (fun v S1 => v = (Sl.hv p.1) ∧ S1 = p.2) := by
  unfold f at h
  refine HCall.of_run at_.at_ body ?_
  show HRun Try.prog base W0 β0 30 none [.code c0] ⟨[(Sl.hv x0), (.int .i64 x1), (Sl.hv x2), .tup [], .tup [], .tup [], .tup [], .tup [], .tup [], .tup [], .tup [], .tup [], .tup [], .tup [], .tup [], .tup [], .tup [], .tup [], .tup [], .tup [], .tup [], .tup [], .tup [], .tup [], .tup [], .tup [], .tup [], .tup [], .tup [], .tup [], .tup [], .tup [], .tup [], .tup [], .tup [], .tup [], .tup [], .tup [], .tup [], .tup [], .tup [], .tup [], .tup [], .tup [], .tup [], .tup [], .tup [], .tup [], .tup [], .tup [], .tup [], .tup [], .tup [], .tup [], .tup [], .tup [], .tup [], .tup [], .tup [], .tup [], .tup [], .tup [], .tup [], .tup [], .tup [], .tup [], .tup [], .tup [], .tup [], .tup [], .tup [], .tup [], .tup [], .tup [], .tup [], .tup [], .tup [], .tup [], .tup [], .tup [], .tup [], .tup [], .tup [], .tup [], .tup [], .tup [], .tup [], .tup [], .tup [], .tup [], .tup [], .tup [], .tup [], .tup [], .tup []], []⟩ S _
  refine q_seq e0 ?_
  refine q_region e1 rfl ?_
  refine q_op (dst := some 6) rfl (fun _ ho => ok_assign ho (.const fun _ => .slNil none)) ?_
  refine hr_region_end ?_
  try dsimp only [HAct.put, List.set_cons_zero, List.set_cons_succ]
  refine q_seq e2 ?_
  refine q_region e3 rfl ?_
  refine q_op (dst := some 10) rfl (fun _ ho => ok_move ho (.tmp rfl)) ?_
  refine q_op (dst := some 11) rfl (fun _ ho => ok_move ho (.tmp rfl)) ?_
  obtain ⟨p1, hp1, h⟩ := bindo h
  refine q_op (dst := some 12) rfl (fun _ ho => ok_slice (kl := .i64) (kh := .i64) (s := x0) (l := x1) (h := (Sl.len x0 : Int)) ho tu58 si63 (.tmp rfl) (.inr ⟨_, rfl, (.tmp rfl)⟩) (.inl ⟨rfl, rfl⟩) hp1) ?_
  refine hr_region_end ?_
  try dsimp only [HAct.put, List.set_cons_zero, List.set_cons_succ]
  refine q_seq e4 ?_
  refine q_region e5 rfl ?_
  refine q_op (dst := some 13) rfl (fun _ ho => ok_move ho (.tmp rfl)) ?_
  refine q_op (dst := some 14) rfl (fun _ ho => ok_len_sl (q := Sl.a x2) (n := Sl.len x2) (z := Sl.cap x2) ho rfl tu58 (.tmp rfl)) ?_
  refine q_op (dst := some 7) rfl (fun _ ho => ok_assign ho (.tmp rfl)) ?_
  refine hr_region_end ?_
  try dsimp only [HAct.put, List.set_cons_zero, List.set_cons_succ]
  refine q_seq e6 ?_
  refine q_seq e7 ?_
  refine q_region e8 rfl ?_
  refine q_op (dst := some 15) rfl (fun _ ho => ok_move ho (.tmp rfl)) ?_
  refine q_op (dst := some 16) rfl (fun _ ho => ok_ibin ho (.tmp rfl) (.int _ _) rfl) ?_
  refine hr_region_end ?_
  try dsimp only [HAct.put, List.set_cons_zero, List.set_cons_succ]
  rcases ifc h with ⟨hc2, h⟩ | ⟨hc2, h⟩
  · refine q_cond_t e9 (.tmp rfl) (decide_eq_true hc2) ?_
    refine q_seq e10 ?_
    refine q_region e11 rfl ?_
    refine q_op (dst := some 17) rfl (fun _ ho => ok_move ho (.tmp rfl)) ?_
    refine q_op (dst := some 6) rfl (fun _ ho => ok_assign ho (.tmp rfl)) ?_
    refine hr_region_end ?_
    try dsimp only [HAct.put, List.set_cons_zero, List.set_cons_succ]
    cases h
    exact q_ret e12 at_.at_ rfl (res1 rfl rfl) ⟨rfl, rfl⟩
  · refine q_cond_f e9 (.tmp rfl) (decide_eq_false hc2) ?_
    refine q_skipc e13 ?_
    refine q_seq e14 ?_
    refine q_region e15 rfl ?_
    refine q_op (dst := some 18) rfl (fun _ ho => ok_move ho (.tmp rfl)) ?_
    refine q_op (dst := some 19) rfl (fun _ ho => ok_len_sl (q := Sl.a x0) (n := Sl.len x0) (z := Sl.cap x0) ho rfl tu58 (.tmp rfl)) ?_
    refine q_op (dst := some 8) rfl (fun _ ho => ok_assign ho (.tmp rfl)) ?_
    refine hr_region_end ?_
    try dsimp only [HAct.put, List.set_cons_zero, List.set_cons_succ]
    refine q_seq e16 ?_
    refine q_seq e17 ?_
    refine q_region e18 rfl ?_
    refine q_op (dst := some 20) rfl (fun _ ho => ok_move ho (.tmp rfl)) ?_
    refine q_op (dst := some 21) rfl (fun _ ho => ok_move ho (.tmp rfl)) ?_
    refine q_op (dst := some 22) rfl (fun _ ho => ok_ibin ho (.tmp rfl) (.tmp rfl) rfl) ?_
    refine hr_region_end ?_
    try dsimp only [HAct.put, List.set_cons_zero, List.set_cons_succ]
    rcases ifc h with ⟨hc3, h⟩ | ⟨hc3, h⟩
    · refine q_cond_t e19 (.tmp rfl) (decide_eq_true hc3) ?_
      refine q_seq e20 ?_
      refine q_region e21 rfl ?_
      refine q_op (dst := some 23) rfl (fun _ ho => ok_move ho (.tmp rfl)) ?_
      refine q_op (dst := some 24) rfl (fun _ ho => ok_move ho (.tmp rfl)) ?_
      obtain ⟨p4, hp4, h⟩ := bindo h
      obtain ⟨p5, hp5, h⟩ := bindo h
      refine q_op (dst := some 25) rfl (fun _ ho => ok_append (s := x0) (s1 := x2) el58 ho rfl rfl ⟨_, tu58⟩ (.tmp rfl) (.tmp rfl) hp4 hp5) ?_
      refine q_op (dst := some 6) rfl (fun _ ho => ok_assign ho (.tmp rfl)) ?_
      refine hr_region_end ?_
      try dsimp only [HAct.put, List.set_cons_zero, List.set_cons_succ]
      cases h
      exact q_ret e22 at_.at_ rfl (res1 rfl rfl) ⟨rfl, rfl⟩
    · refine q_cond_f e19 (.tmp rfl) (decide_eq_false hc3) ?_
      refine q_skipc e23 ?_
      refine q_seq e24 ?_
      refine q_seq e25 ?_
      refine q_region e26 rfl ?_
      refine q_op (dst := some 26) rfl (fun _ ho => ok_move ho (.tmp rfl)) ?_
      refine q_op (dst := some 27) rfl (fun _ ho => ok_move ho (.tmp rfl)) ?_
      refine q_op (dst := some 28) rfl (fun _ ho => ok_ibin ho (.tmp rfl) (.tmp rfl) rfl) ?_
      refine q_op (dst := some 29) rfl (fun _ ho => ok_move ho (.tmp rfl)) ?_
      try dsimp only [HAct.put, List.set_cons_zero, List.set_cons_succ]
      obtain ⟨p6, hp6, h⟩ := bindo h
      refine q_op (dst := some 30) rfl (fun _ ho => ok_cap (s := x0) ho rfl tu58 (.tmp rfl) hp6) ?_
      refine q_op (dst := some 31) rfl (fun _ ho => ok_ibin ho (.tmp rfl) (.tmp rfl) rfl) ?_
      refine hr_region_end ?_
      try dsimp only [HAct.put, List.set_cons_zero, List.set_cons_succ]
      rcases ifc h with ⟨hc7, h⟩ | ⟨hc7, h⟩
      · refine q_cond_t e27 (.tmp rfl) (decide_eq_true hc7) ?_
        refine q_seq e28 ?_
        refine q_region e29 rfl ?_
        refine q_op (dst := some 32) rfl (fun _ ho => ok_move ho (.tmp rfl)) ?_
        refine q_op (dst := some 33) rfl (fun _ ho => ok_move ho (.tmp rfl)) ?_
        obtain ⟨p8, hp8, h⟩ := bindo h
        refine q_op (dst := some 34) rfl (fun _ ho => ok_slice (kl := .i64) (kh := .i64) (s := x0) (l := 0) (h := x1) ho tu58 si63 (.tmp rfl) (.inl ⟨rfl, rfl⟩) (.inr ⟨_, rfl, (.tmp rfl)⟩) hp8) ?_
        refine q_op (dst := some 35) rfl (fun _ ho => ok_move ho (.tmp rfl)) ?_
        try dsimp only [HAct.put, List.set_cons_zero, List.set_cons_succ]
        refine q_op (dst := some 36) rfl (fun _ ho => ok_move ho (.tmp rfl)) ?_
        refine q_op (dst := some 37) rfl (fun _ ho => ok_ibin ho (.tmp rfl) (.tmp rfl) rfl) ?_
        refine q_op (dst := some 38) rfl (fun _ ho => ok_move ho (.tmp rfl)) ?_
        refine q_op (dst := some 39) rfl (fun _ ho => ok_ibin ho (.tmp rfl) (.tmp rfl) rfl) ?_
        try dsimp only [HAct.put, List.set_cons_zero, List.set_cons_succ]
        obtain ⟨p9, hp9, h⟩ := bindo h
        refine q_op (dst := some 40) rfl (fun _ ho => ok_append_zeros (s := p8) el58 ho rfl rfl tu3 (.tmp rfl) (.tmp rfl) hp9) ?_
        refine q_op (dst := some 9) rfl (fun _ ho => ok_assign ho (.tmp rfl)) ?_
        refine hr_region_end ?_
        try dsimp only [HAct.put, List.set_cons_zero, List.set_cons_succ]
        refine q_seq e30 ?_
        refine q_region e31 rfl ?_
        refine q_op (dst := some 41) rfl (fun _ ho => ok_move ho (.tmp rfl)) ?_
        refine q_op (dst := some 42) rfl (fun _ ho => ok_move ho (.tmp rfl)) ?_
        obtain ⟨p10, hp10, h⟩ := bindo h
        refine q_op (dst := some 43) rfl (fun _ ho => ok_slice (kl := .i64) (kh := .i64) (s := (p9.1)) (l := x1) (h := (Sl.len (p9.1) : Int)) ho tu58 si63 (.tmp rfl) (.inr ⟨_, rfl, (.tmp rfl)⟩) (.inl ⟨rfl, rfl⟩) hp10) ?_
        refine q_op (dst := some 44) rfl (fun _ ho => ok_move ho (.tmp rfl)) ?_
        try dsimp only [HAct.put, List.set_cons_zero, List.set_cons_succ]
        obtain ⟨p11, hp11, h⟩ := bindo h
        obtain ⟨p12, hp12, h⟩ := bindo h
        refine q_op (dst := some 45) rfl (fun _ ho => ok_copy (s := p10) (s1 := x2) el58 ho rfl (.tmp rfl) (.tmp rfl) hp11 hp12) ?_
        refine hr_region_end ?_
        try dsimp only [HAct.put, List.set_cons_zero, List.set_cons_succ]
        refine q_seq e32 ?_
        refine x_start (cls := [0, 0, 0, 0, 1, 0, 0, 1, 2]) (rk := [0, 1, 2, 3, 4, 5, 6, 7, 8]) e33 (by kernel_rfl) ?_
        refine x_go (f_op (dst := some 46) (ts := [9]) rfl (by intro _ _ h; cases h) (by kernel_rfl) (fun _ _ ho => ok_move ho (.tmp rfl))) rfl ?_
        refine x_go (f_op (dst := some 47) (ts := [1]) rfl (by intro _ _ h; cases h) (by kernel_rfl) (fun _ _ ho => ok_move ho (.tmp rfl))) rfl ?_
        refine x_go (f_op (dst := some 48) (ts := [7]) rfl (by intro _ _ h; cases h) (by kernel_rfl) (fun _ _ ho => ok_move ho (.tmp rfl))) rfl ?_
        refine x_go (f_op (dst := some 49) (ts := [47, 48]) rfl (by intro _ _ h; cases h) (by kernel_rfl) (fun _ _ ho => ok_ibin ho (.tmp rfl) (.tmp rfl) rfl)) rfl ?_
        try dsimp only [HAct.put, List.set_cons_zero, List.set_cons_succ]
        obtain ⟨p13, hp13, h⟩ := bindo h
        refine x_go (r_op (dst := some 50) (ts := [46, 49]) rfl (by intro _ _ h; cases h) (by kernel_rfl) (fun _ ho => ok_slice (kl := .i64) (kh := .i64) (s := (p9.1)) (l := (w64 (x1 + (Sl.len x2 : Int)))) (h := (Sl.len (p9.1) : Int)) ho tu58 si63 (.tmp rfl) (.inr ⟨_, rfl, (.tmp rfl)⟩) (.inl ⟨rfl, rfl⟩) hp13)) rfl ?_
        refine x_go (f_op (dst := some 51) (ts := [0]) rfl (by intro _ _ h; cases h) (by kernel_rfl) (fun _ _ ho => ok_move ho (.tmp rfl))) rfl ?_
        refine x_go (f_op (dst := some 52) (ts := [1]) rfl (by intro _ _ h; cases h) (by kernel_rfl) (fun _ _ ho => ok_move ho (.tmp rfl))) rfl ?_
        obtain ⟨p14, hp14, h⟩ := bindo h
        refine x_go (r_op (dst := some 53) (ts := [51, 52]) rfl (by intro _ _ h; cases h) (by kernel_rfl) (fun _ ho => ok_slice (kl := .i64) (kh := .i64) (s := x0) (l := x1) (h := (Sl.len x0 : Int)) ho tu58 si63 (.tmp rfl) (.inr ⟨_, rfl, (.tmp rfl)⟩) (.inl ⟨rfl, rfl⟩) hp14)) rfl ?_
        try dsimp only [HAct.put, List.set_cons_zero, List.set_cons_succ]
        obtain ⟨p15, hp15, h⟩ := bindo h
        obtain ⟨p16, hp16, h⟩ := bindo h
        refine x_go (e_op (dst := some 54) (ts := [50, 53]) rfl (by intro _ _ h; cases h) (by kernel_rfl) (fun _ ho => ok_copy (s := p13) (s1 := p14) el58 ho rfl (.tmp rfl) (.tmp rfl) hp15 hp16)) rfl ?_
        refine x_rest rfl ?_
        refine hr_region_end ?_
        try dsimp only [HAct.put, List.set_cons_zero, List.set_cons_succ]
        refine q_seq e34 ?_
        refine q_region e35 rfl ?_
        refine q_op (dst := some 55) rfl (fun _ ho => ok_move ho (.tmp rfl)) ?_
        refine q_op (dst := some 6) rfl (fun _ ho => ok_assign ho (.tmp rfl)) ?_
        refine hr_region_end ?_
        try dsimp only [HAct.put, List.set_cons_zero, List.set_cons_succ]
        cases h
        exact q_ret e36 at_.at_ rfl (res1 rfl rfl) ⟨rfl, rfl⟩
      · refine q_cond_f e27 (.tmp rfl) (decide_eq_false hc7) ?_
        refine q_skipc e37 ?_
        refine q_seq e38 ?_
        refine q_region e39 rfl ?_
        refine q_op (dst := some 56) rfl (fun _ ho => ok_move ho (.tmp rfl)) ?_
        refine q_op (dst := some 57) rfl (fun _ ho => ok_move ho (.tmp rfl)) ?_
        refine q_op (dst := some 58) rfl (fun _ ho => ok_move ho (.tmp rfl)) ?_
        refine q_op (dst := some 59) rfl (fun _ ho => ok_ibin ho (.tmp rfl) (.tmp rfl) rfl) ?_
        try dsimp only [HAct.put, List.set_cons_zero, List.set_cons_succ]
        obtain ⟨p17, hp17, h⟩ := bindo h
        refine q_op (dst := some 60) rfl (fun _ ho => ok_slice (kl := .i64) (kh := .i64) (s := x0) (l := 0) (h := (w64 ((Sl.len x0 : Int) + (Sl.len x2 : Int)))) ho tu58 si63 (.tmp rfl) (.inl ⟨rfl, rfl⟩) (.inr ⟨_, rfl, (.tmp rfl)⟩) hp17) ?_
        refine q_op (dst := some 0) rfl (fun _ ho => ok_assign ho (.tmp rfl)) ?_
        refine hr_region_end ?_
        try dsimp only [HAct.put, List.set_cons_zero, List.set_cons_succ]
        refine q_seq e40 ?_
        refine q_seq e41 ?_
        refine q_region e42 rfl ?_
        refine q_op (dst := some 61) rfl (fun _ ho => ok_move ho (.tmp rfl)) ?_
        refine q_op (dst := some 62) rfl (fun _ ho => ok_move ho (.tmp rfl)) ?_
        refine q_op (dst := some 63) rfl (fun _ ho => ok_move ho (.tmp rfl)) ?_
        refine q_op (dst := some 64) rfl (fun _ ho => ok_move ho (.tmp rfl)) ?_
        try dsimp only [HAct.put, List.set_cons_zero, List.set_cons_succ]
        refine q_op (dst := some 65) rfl (fun _ ho => ok_ibin ho (.tmp rfl) (.tmp rfl) rfl) ?_
        obtain ⟨p18, hp18, h⟩ := bindo h
        refine q_op (dst := some 66) rfl (fun _ ho => ok_slice (kl := .i64) (kh := .i64) (s := p17) (l := (w64 (x1 + (Sl.len x2 : Int)))) (h := (Sl.len p17 : Int)) ho tu58 si63 (.tmp rfl) (.inr ⟨_, rfl, (.tmp rfl)⟩) (.inl ⟨rfl, rfl⟩) hp18) ?_
        obtain ⟨p19, hp19, h⟩ := bindo h
        refine q_op (dst := some 67) rfl (fun _ ho => ok_overlaps (s1 := x2) (s2 := p18) ho ext41 tu58 si63 (.tmp rfl) (.tmp rfl) hp19) ?_
        refine q_op (dst := some 68) rfl (fun _ ho => ok_not ho (.tmp rfl)) ?_
        refine hr_region_end ?_
        try dsimp only [HAct.put, List.set_cons_zero, List.set_cons_succ]
        rcases ifc h with ⟨hc20, h⟩ | ⟨hc20, h⟩
        · refine q_cond_t e43 (.tmp rfl) hc20 ?_
          refine q_seq e44 ?_
          refine x_start (cls := [0, 0, 0, 0, 1, 0, 0, 1, 2]) (rk := [0, 1, 2, 3, 4, 5, 6, 7, 8]) e45 (by kernel_rfl) ?_
          refine x_go (f_op (dst := some 69) (ts := [0]) rfl (by intro _ _ h; cases h) (by kernel_rfl) (fun _ _ ho => ok_move ho (.tmp rfl))) rfl ?_
          refine x_go (f_op (dst := some 70) (ts := [1]) rfl (by intro _ _ h; cases h) (by kernel_rfl) (fun _ _ ho => ok_move ho (.tmp rfl))) rfl ?_
          refine x_go (f_op (dst := some 71) (ts := [7]) rfl (by intro _ _ h; cases h) (by kernel_rfl) (fun _ _ ho => ok_move ho (.tmp rfl))) rfl ?_
          refine x_go (f_op (dst := some 72) (ts := [70, 71]) rfl (by intro _ _ h; cases h) (by kernel_rfl) (fun _ _ ho => ok_ibin ho (.tmp rfl) (.tmp rfl) rfl)) rfl ?_
          try dsimp only [HAct.put, List.set_cons_zero, List.set_cons_succ]
          obtain ⟨p21, hp21, h⟩ := bindo h
          refine x_go (r_op (dst := some 73) (ts := [69, 72]) rfl (by intro _ _ h; cases h) (by kernel_rfl) (fun _ ho => ok_slice (kl := .i64) (kh := .i64) (s := p17) (l := (w64 (x1 + (Sl.len x2 : Int)))) (h := (Sl.len p17 : Int)) ho tu58 si63 (.tmp rfl) (.inr ⟨_, rfl, (.tmp rfl)⟩) (.inl ⟨rfl, rfl⟩) hp21)) rfl ?_
          refine x_go (f_op (dst := some 74) (ts := [0]) rfl (by intro _ _ h; cases h) (by kernel_rfl) (fun _ _ ho => ok_move ho (.tmp rfl))) rfl ?_
          refine x_go (f_op (dst := some 75) (ts := [1]) rfl (by intro _ _ h; cases h) (by kernel_rfl) (fun _ _ ho => ok_move ho (.tmp rfl))) rfl ?_
          obtain ⟨p22, hp22, h⟩ := bindo h
          refine x_go (r_op (dst := some 76) (ts := [74, 75]) rfl (by intro _ _ h; cases h) (by kernel_rfl) (fun _ ho => ok_slice (kl := .i64) (kh := .i64) (s := p17) (l := x1) (h := (Sl.len p17 : Int)) ho tu58 si63 (.tmp rfl) (.inr ⟨_, rfl, (.tmp rfl)⟩) (.inl ⟨rfl, rfl⟩) hp22)) rfl ?_
          try dsimp only [HAct.put, List.set_cons_zero, List.set_cons_succ]
          obtain ⟨p23, hp23, h⟩ := bindo h
          obtain ⟨p24, hp24, h⟩ := bindo h
          refine x_go (e_op (dst := some 77) (ts := [73, 76]) rfl (by intro _ _ h; cases h) (by kernel_rfl) (fun _ ho => ok_copy (s := p21) (s1 := p22) el58 ho rfl (.tmp rfl) (.tmp rfl) hp23 hp24)) rfl ?_
          refine x_rest rfl ?_
          refine hr_region_end ?_
          try dsimp only [HAct.put, List.set_cons_zero, List.set_cons_succ]
          refine q_seq e46 ?_
          refine q_region e47 rfl ?_
          refine q_op (dst := some 78) rfl (fun _ ho => ok_move ho (.tmp rfl)) ?_
          refine q_op (dst := some 79) rfl (fun _ ho => ok_move ho (.tmp rfl)) ?_
          obtain ⟨p25, hp25, h⟩ := bindo h
          refine q_op (dst := some 80) rfl (fun _ ho => ok_slice (kl := .i64) (kh := .i64) (s := p17) (l := x1) (h := (Sl.len p17 : Int)) ho tu58 si63 (.tmp rfl) (.inr ⟨_, rfl, (.tmp rfl)⟩) (.inl ⟨rfl, rfl⟩) hp25) ?_
          refine q_op (dst := some 81) rfl (fun _ ho => ok_move ho (.tmp rfl)) ?_
          try dsimp only [HAct.put, List.set_cons_zero, List.set_cons_succ]
          obtain ⟨p26, hp26, h⟩ := bindo h
          obtain ⟨p27, hp27, h⟩ := bindo h
          refine q_op (dst := some 82) rfl (fun _ ho => ok_copy (s := p25) (s1 := x2) el58 ho rfl (.tmp rfl) (.tmp rfl) hp26 hp27) ?_
          refine hr_region_end ?_
          try dsimp only [HAct.put, List.set_cons_zero, List.set_cons_succ]
          refine q_seq e48 ?_
          refine q_region e49 rfl ?_
          refine q_op (dst := some 83) rfl (fun _ ho => ok_move ho (.tmp rfl)) ?_
          refine q_op (dst := some 6) rfl (fun _ ho => ok_assign ho (.tmp rfl)) ?_
          refine hr_region_end ?_
          try dsimp only [HAct.put, List.set_cons_zero, List.set_cons_succ]
          cases h
          exact q_ret e50 at_.at_ rfl (res1 rfl rfl) ⟨rfl, rfl⟩
        · refine q_cond_f e43 (.tmp rfl) (bfalse hc20) ?_
          refine q_skipc e51 ?_
          refine q_seq e52 ?_
          refine q_region e53 rfl ?_
          refine q_op (dst := some 84) rfl (fun _ ho => ok_move ho (.tmp rfl)) ?_
          refine q_op (dst := some 85) rfl (fun _ ho => ok_move ho (.tmp rfl)) ?_
          obtain ⟨p28, hp28, h⟩ := bindo h
          refine q_op (dst := some 86) rfl (fun _ ho => ok_slice (kl := .i64) (kh := .i64) (s := p17) (l := (Sl.len x0 : Int)) (h := (Sl.len p17 : Int)) ho tu58 si63 (.tmp rfl) (.inr ⟨_, rfl, (.tmp rfl)⟩) (.inl ⟨rfl, rfl⟩) hp28) ?_
          refine q_op (dst := some 87) rfl (fun _ ho => ok_move ho (.tmp rfl)) ?_
          try dsimp only [HAct.put, List.set_cons_zero, List.set_cons_succ]
          obtain ⟨p29, hp29, h⟩ := bindo h
          obtain ⟨p30, hp30, h⟩ := bindo h
          refine q_op (dst := some 88) rfl (fun _ ho => ok_copy (s := p28) (s1 := x2) el58 ho rfl (.tmp rfl) (.tmp rfl) hp29 hp30) ?_
          refine hr_region_end ?_
          try dsimp only [HAct.put, List.set_cons_zero, List.set_cons_succ]
          refine q_seq e54 ?_
          refine q_region e55 rfl ?_
          refine q_op (dst := some 89) rfl (fun _ ho => ok_move ho (.tmp rfl)) ?_
          refine q_op (dst := some 90) rfl (fun _ ho => ok_move ho (.tmp rfl)) ?_
          obtain ⟨p31, hp31, h⟩ := bindo h
          refine q_op (dst := some 91) rfl (fun _ ho => ok_slice (kl := .i64) (kh := .i64) (s := p17) (l := x1) (h := (Sl.len p17 : Int)) ho tu58 si63 (.tmp rfl) (.inr ⟨_, rfl, (.tmp rfl)⟩) (.inl ⟨rfl, rfl⟩) hp31) ?_
          refine q_op (dst := some 92) rfl (fun _ ho => ok_move ho (.tmp rfl)) ?_
          try dsimp only [HAct.put, List.set_cons_zero, List.set_cons_succ]
          obtain ⟨p32, hp32, h⟩ := bindo h
          refine q_call (dst := some 93) rfl (.func _) (.cons (.tmp rfl) (.cons (.tmp rfl) Evs.nil)) (HInv.static slices_rotateRight_timer_item_string.at_ slices_rotateRight_timer_item_string.body (slices_rotateRight_timer_item_string.snd  hp32)) ?_
          rintro _ _ ⟨rfl, rfl⟩
          refine hr_region_end ?_
          try dsimp only [HAct.put, List.set_cons_zero, List.set_cons_succ]
          refine q_seq e56 ?_
          refine q_region e57 rfl ?_
          refine q_op (dst := some 94) rfl (fun _ ho => ok_move ho (.tmp rfl)) ?_
          refine q_op (dst := some 6) rfl (fun _ ho => ok_assign ho (.tmp rfl)) ?_
          refine hr_region_end ?_
          try dsimp only [HAct.put, List.set_cons_zero, List.set_cons_succ]
          cases h
          exact q_ret e58 at_.at_ rfl (res1 rfl rfl) ⟨rfl, rfl⟩
end
end slices_Insert_timer_item_string_timer_item_string
namespace slices_Insert_timer_item_string_timer_item_string_w
theorem at_ : FnAt Try.prog 30 Try.f30 := slices_Insert_timer_item_string_timer_item_string.at_
theorem body : Try.f30.body = some slices_Insert_timer_item_string_timer_item_string.c0 := slices_Insert_timer_item_string_timer_item_string.body
def f (x0 : Sl) (x1 : Int) (x2 : Sl) (S : HS) : Option ((Sl) × HS) := HS.ins S x0 x1 x2 2
theorem snd {base : Nat} {W0 : World} {β0 : Bt} {x0 : Sl} {x1 : Int} {x2 : Sl} {S : HS} {p : (Sl) × HS} (h : f x0 x1 x2 S = some p) : HCall Try.prog base W0 β0 30 [(Sl.hv x0), (.int .i64 x1), (Sl.hv x2)] S (fun v S1 => v = (Sl.hv p.1) ∧ S1 = p.2) :=
  ins_snd (rot := fun a b T => slices_rotateRight_timer_item_string.f 0 a b T) (zr := [(.str []), (.int .i64 0)]) (fun _ _ _ h => slices_Insert_timer_item_string_timer_item_string.snd (k := 0) h) h
end slices_Insert_timer_item_string_timer_item_string_w
namespace timer_Table_string_Set
abbrev id : Nat := 13
theorem at_ : FnAt Try.prog 13 Try.f13 := ⟨Try.func13, by kernel_rfl⟩
noncomputable def c0 : Code := (Try.f13.body).getD .skip
noncomputable def c1 : Code := match c0 with | .seq x _ => x | _ => .skip
noncomputable def c2 : Code := match c1 with | .seq x _ => x | _ => .skip
noncomputable def c3 : Code := match c1 with | .seq _ x => x | _ => .skip
noncomputable def c4 : Code := match c3 with | .cond _ x _ => x | _ => .skip
noncomputable def c5 : Code := match c3 with | .cond _ _ x => x | _ => .skip
noncomputable def c6 : Code := match c0 with | .seq _ x => x | _ => .skip
noncomputable def c7 : Code := match c6 with | .seq x _ => x | _ => .skip
noncomputable def c8 : Code := match c6 with | .seq _ x => x | _ => .skip
noncomputable def c9 : Code := match c8 with | .seq x _ => x | _ => .skip
noncomputable def c10 : Code := match c8 with | .seq _ x => x | _ => .skip
noncomputable def c11 : Code := match c10 with | .seq x _ => x | _ => .skip
noncomputable def c12 : Code := match c10 with | .seq _ x => x | _ => .skip
theorem e0 : c0 = .seq c1 c6 := by kernel_rfl
theorem e1 : c1 = .seq c2 c3 := by kernel_rfl
noncomputable def r2 : Array Oper := match c2 with | .region _ x _ => x | _ => #[]
theorem e2 : c2 = .region 0 r2 false := by kernel_rfl
theorem e3 : c3 = .cond (.tmp 9) c4 c5 := by kernel_rfl
theorem e4 : c4 = .ret := by kernel_rfl
theorem e5 : c5 = .skip := by kernel_rfl
theorem e6 : c6 = .seq c7 c8 := by kernel_rfl
noncomputable def r7 : Array Oper := match c7 with | .region _ x _ => x | _ => #[]
theorem e7 : c7 = .region 1 r7 false := by kernel_rfl
theorem e8 : c8 = .seq c9 c10 := by kernel_rfl
noncomputable def r9 : Array Oper := match c9 with | .region _ x _ => x | _ => #[]
theorem e9 : c9 = .region 2 r9 false := by kernel_rfl
theorem e10 : c10 = .seq c11 c12 := by kernel_rfl
noncomputable def r11 : Array Oper := match c11 with | .region _ x _ => x | _ => #[]
theorem e11 : c11 = .region 3 r11 false := by kernel_rfl
noncomputable def r12 : Array Oper := match c12 with | .region _ x _ => x | _ => #[]
theorem e12 : c12 = .region 4 r12 false := by kernel_rfl
theorem body : Try.f13.body = some c0 := by kernel_rfl
section
variable {base : Nat} {W0 : World} {β0 : Bt}
def f (D : Dp) (H : Hd) (k : Nat) (x0 : (Option HA)) (x1 : (List UInt8)) (x2 : Int) (S : HS) : Option ((Unit) × HS) :=
  (if (Option.isNone x0) = true then
  some ((), S) else
  (Option.bind (timer_Table_string_Stop.f D H k x0 x1 S) fun p2 =>
  (Option.bind (x0) fun p3 =>
  (Option.bind (HS.ldSl p2.2 (HA.fld p3 0)) fun p4 =>
  (Option.bind (slices_BinarySearchFunc_timer_item_string_timer_item_string_timer_item_string.f D H k p4 x1 x2 (HV.fn (.func 26) [] []) p2.2) fun p5 =>
  (Option.bind (x0) fun p6 =>
  (Option.bind (HS.ldSl p5.2 (HA.fld p6 0)) fun p7 =>
  (letv (HS.lit p5.2 [[(.str x1), (.int .i64 x2)]] 2) fun p8 =>
  (Option.bind (slices_Insert_timer_item_string_timer_item_string_w.f p7 p5.1.1 (p8.1) (p8.2)) fun p9 =>
  (Option.bind (x0) fun p10 =>
  (Option.bind (HS.sets p9.2 (HA.fld p10 0) [(Sl.hv p9.1)]) fun p11 =>
  (Option.bind (x0) fun p12 =>
  (Option.bind (HS.ldM p11 (HA.fld p12 1)) fun p13 =>
  (Option.bind (HS.mput p11 p13 (.str x1) (.int .i64 x2)) fun p14 =>
  some ((), p14)))))))))))))))
theorem snd {D : Dp} {H : Hd} {k : Nat} {x0 : (Option HA)} {x1 : (List UInt8)} {x2 : Int} {S : HS} (hD : DSound Try.prog base W0 D) (hH : HSound Try.prog base W0 β0 H)  {p : (Unit) × HS} (h : f D H k x0 x1 x2 S = some p) : HCall Try.prog base W0 β0 13 [(.ptr x0), (.str x1), (.int .i64 x2)] S (fun v S1 => v = (.tup []) ∧ S1 = p.2) := by
  unfold f at h
  refine HCall.of_run at_.at_ body ?_
  show HRun Try.prog base W0 β0 13 none [.code c0] ⟨[(.ptr x0), (.str x1), (.int .i64 x2), .tup [], .tup [], .tup [], .tup [], .tup [], .tup [], .tup [], .tup [], .tup [], .tup [], .tup [], .tup [], .tup [], .tup [], .tup [], .tup [], .tup [], .tup [], .tup [], .tup [], .tup [], .tup [], .tup [], .tup [], .tup [], .tup [], .tup [], .tup [], .tup [], .tup [], .tup [], .tup [], .tup [], .tup [], .tup [], .tup [], .tup [], .tup [], .tup [], .tup []], []⟩ S _
  refine q_seq e0 ?_
  refine q_seq e1 ?_
  refine q_region e2 rfl ?_
  refine q_op (dst := some 8) rfl (fun _ ho => ok_move ho (.tmp rfl)) ?_
  refine q_op (dst := some 9) rfl (fun _ ho => ok_nil_ptr ho tu25 (.tmp rfl) (.inl ⟨rfl, rfl⟩)) ?_
  refine hr_region_end ?_
  try dsimp only [HAct.put, List.set_cons_zero, List.set_cons_succ]
  rcases ifc h with ⟨hc1, h⟩ | ⟨hc1, h⟩
  · refine q_cond_t e3 (.tmp rfl) hc1 ?_
    cases h
    exact q_ret e4 at_.at_ rfl (res0 rfl) ⟨rfl, rfl⟩
  · refine q_cond_f e3 (.tmp rfl) (bfalse hc1) ?_
    refine q_skipc e5 ?_
    refine q_seq e6 ?_
    refine q_region e7 rfl ?_
    refine q_op (dst := some 10) rfl (fun _ ho => ok_move ho (.tmp rfl)) ?_
    refine q_op (dst := some 11) rfl (fun _ ho => ok_move ho (.tmp rfl)) ?_
    obtain ⟨p2, hp2, h⟩ := bindo h
    refine q_call (dst := some 12) rfl (.func _) (.cons (.tmp rfl) (.cons (.tmp rfl) Evs.nil)) (HInv.static timer_Table_string_Stop.at_ timer_Table_string_Stop.body (timer_Table_string_Stop.snd hD hH hp2)) ?_
    rintro _ _ ⟨rfl, rfl⟩
    refine hr_region_end ?_
    try dsimp only [HAct.put, List.set_cons_zero, List.set_cons_succ]
    refine q_seq e8 ?_
    refine q_region e9 rfl ?_
    refine q_op (dst := some 14) rfl (fun _ ho => ok_move ho (.tmp rfl)) ?_
    obtain ⟨p3, hp3, h⟩ := bindo h
    refine q_op (dst := some 15) rfl (fun _ ho => ok_nilCheck_p ho (.tmp rfl) hp3) ?_
    refine q_op (dst := some 16) rfl (fun _ ho => ok_fieldAddr_s ho fi60_0 (by decide) (.tmp rfl) rfl) ?_
    obtain ⟨p4, hp4, h⟩ := bindo h
    refine q_op (dst := some 17) rfl (fun _ ho => ok_load_s ho sc58 (.tmp rfl) rfl (ldSl_out hp4)) ?_
    try dsimp only [HAct.put, List.set_cons_zero, List.set_cons_succ]
    refine q_op (dst := some 18) rfl (fun _ ho => ok_move ho (.tmp rfl)) ?_
    refine q_op (dst := some 19) rfl (fun _ ho => ok_move ho (.tmp rfl)) ?_
    refine q_op (dst := some 20) rfl (fun _ ho => ok_build (is := [0, 1]) (xs := [(.tmp 18), (.tmp 19)]) (r := [(.str x1), (.int .i64 x2)]) st63 ho rfl rfl (.cons (.tmp rfl) (.cons (.tmp rfl) Evs.nil)) rfl) ?_
    obtain ⟨p5, hp5, h⟩ := bindo h
    refine q_call (dst := some 21) rfl (.func _) (.cons (.tmp rfl) (.cons (.tmp rfl) (.cons (.func _) Evs.nil))) (HInv.static slices_BinarySearchFunc_timer_item_string_timer_item_string_timer_item_string.at_ slices_BinarySearchFunc_timer_item_string_timer_item_string_timer_item_string.body (slices_BinarySearchFunc_timer_item_string_timer_item_string_timer_item_string.snd hD hH hp5)) ?_
    rintro _ _ ⟨rfl, rfl⟩
    try dsimp only [HAct.put, List.set_cons_zero, List.set_cons_succ]
    refine q_op (dst := some 13) rfl (fun _ ho => ok_move ho (.tmp rfl)) ?_
    refine q_op (dst := some 22) rfl (fun _ ho => ok_extract ho (.tmp rfl) rfl) ?_
    refine q_op (dst := some 23) rfl (fun _ ho => ok_extract ho (.tmp rfl) rfl) ?_
    refine q_op (dst := some 6) rfl (fun _ ho => ok_assign ho (.tmp rfl)) ?_
    try dsimp only [HAct.put, List.set_cons_zero, List.set_cons_succ]
    refine q_op (dst := some 7) rfl (fun _ ho => ok_assign ho (.tmp rfl)) ?_
    refine hr_region_end ?_
    try dsimp only [HAct.put, List.set_cons_zero, List.set_cons_succ]
    refine q_seq e10 ?_
    refine q_region e11 rfl ?_
    refine q_op (dst := some 24) rfl (fun _ ho => ok_move ho (.tmp rfl)) ?_
    refine q_op (dst := some 25) rfl (fun _ ho => ok_move ho (.tmp rfl)) ?_
    obtain ⟨p6, hp6, h⟩ := bindo h
    refine q_op (dst := some 26) rfl (fun _ ho => ok_nilCheck_p ho (.tmp rfl) hp6) ?_
    refine q_op (dst := some 27) rfl (fun _ ho => ok_fieldAddr_s ho fi60_0 (by decide) (.tmp rfl) rfl) ?_
    try dsimp only [HAct.put, List.set_cons_zero, List.set_cons_succ]
    obtain ⟨p7, hp7, h⟩ := bindo h
    refine q_op (dst := some 28) rfl (fun _ ho => ok_load_s ho sc58 (.tmp rfl) rfl (ldSl_out hp7)) ?_
    refine q_op (dst := some 29) rfl (fun _ ho => ok_move ho (.tmp rfl)) ?_
    refine q_op (dst := some 30) rfl (fun _ ho => ok_move ho (.tmp rfl)) ?_
    refine q_op (dst := some 31) rfl (fun _ ho => ok_move ho (.tmp rfl)) ?_
    try dsimp only [HAct.put, List.set_cons_zero, List.set_cons_succ]
    refine q_op (dst := some 32) rfl (fun _ ho => ok_build (is := [0, 1]) (xs := [(.tmp 30), (.tmp 31)]) (r := [(.str x1), (.int .i64 x2)]) st63 ho rfl rfl (.cons (.tmp rfl) (.cons (.tmp rfl) Evs.nil)) rfl) ?_
    obtain ⟨p8, hp8, h⟩ := leto h
    refine q_op (dst := some 33) rfl (fun _ ho => ok_buildSlice_s (xs := [(.tmp 32)]) el58 ho rfl rfl (by decide) (.cons (.tmp rfl) Evs.nil) rfl rfl hp8) ?_
    obtain ⟨p9, hp9, h⟩ := bindo h
    refine q_call (dst := some 34) rfl (.func _) (.cons (.tmp rfl) (.cons (.tmp rfl) (.cons (.tmp rfl) Evs.nil))) (HInv.static slices_Insert_timer_item_string_timer_item_string_w.at_ slices_Insert_timer_item_string_timer_item_string_w.body (slices_Insert_timer_item_string_timer_item_string_w.snd  hp9)) ?_
    rintro _ _ ⟨rfl, rfl⟩
    obtain ⟨p10, hp10, h⟩ := bindo h
    refine q_op (dst := some 35) rfl (fun _ ho => ok_nilCheck_p ho (.tmp rfl) hp10) ?_
    try dsimp only [HAct.put, List.set_cons_zero, List.set_cons_succ]
    refine q_op (dst := some 36) rfl (fun _ ho => ok_fieldAddr_s ho fi60_0 (by decide) (.tmp rfl) rfl) ?_
    obtain ⟨p11, hp11, h⟩ := bindo h
    refine q_op (dst := none) rfl (fun _ ho => ok_store_s (v := (Sl.hv p9.1)) ho sz58 (.tmp rfl) rfl (.tmp rfl) rfl hp11) ?_
    refine hr_region_end ?_
    try dsimp only [HAct.put, List.set_cons_zero, List.set_cons_succ]
    refine q_region e12 rfl ?_
    refine q_op (dst := some 37) rfl (fun _ ho => ok_move ho (.tmp rfl)) ?_
    obtain ⟨p12, hp12, h⟩ := bindo h
    refine q_op (dst := some 38) rfl (fun _ ho => ok_nilCheck_p ho (.tmp rfl) hp12) ?_
    refine q_op (dst := some 39) rfl (fun _ ho => ok_fieldAddr_s ho fi60_1 (by decide) (.tmp rfl) rfl) ?_
    obtain ⟨p13, hp13, h⟩ := bindo h
    refine q_op (dst := some 40) rfl (fun _ ho => ok_load_s ho sc57 (.tmp rfl) rfl (ldM_out hp13)) ?_
    try dsimp only [HAct.put, List.set_cons_zero, List.set_cons_succ]
    refine q_op (dst := some 41) rfl (fun _ ho => ok_move ho (.tmp rfl)) ?_
    refine q_op (dst := some 42) rfl (fun _ ho => ok_move ho (.tmp rfl)) ?_
    obtain ⟨p14, hp14, h⟩ := bindo h
    refine q_op (dst := none) rfl (fun _ ho => ok_mapUpdate ho tu57 (keyStr tu9) (.tmp rfl) (.tmp rfl) (.tmp rfl) hp14) ?_
    refine hr_region_end ?_
    try dsimp only [HAct.put, List.set_cons_zero, List.set_cons_succ]
    cases h
    exact q_end at_.at_ rfl (res0 rfl) ⟨rfl, rfl⟩
end
end timer_Table_string_Set
namespace slices_Clone_timer_item_string_timer_item_string
abbrev id : Nat := 39
theorem at_ : FnAt Try.prog 39 Try.f39 := ⟨Try.func39, by kernel_rfl⟩
noncomputable def c0 : Code := (Try.f39.body).getD .skip
noncomputable def c1 : Code := match c0 with | .seq x _ => x | _ => .skip
noncomputable def c2 : Code := match c0 with | .seq _ x => x | _ => .skip
noncomputable def c3 : Code := match c2 with | .seq x _ => x | _ => .skip
noncomputable def c4 : Code := match c3 with | .seq x _ => x | _ => .skip
noncomputable def c5 : Code := match c3 with | .seq _ x => x | _ => .skip
noncomputable def c6 : Code := match c5 with | .cond _ x _ => x | _ => .skip
noncomputable def c7 : Code := match c6 with | .seq x _ => x | _ => .skip
noncomputable def c8 : Code := match c6 with | .seq _ x => x | _ => .skip
noncomputable def c9 : Code := match c5 with | .cond _ _ x => x | _ => .skip
noncomputable def c10 : Code := match c2 with | .seq _ x => x | _ => .skip
noncomputable def c11 : Code := match c10 with | .seq x _ => x | _ => .skip
noncomputable def c12 : Code := match c10 with | .seq _ x => x | _ => .skip
theorem e0 : c0 = .seq c1 c2 := by kernel_rfl
noncomputable def r1 : Array Oper := match c1 with | .region _ x _ => x | _ => #[]
theorem e1 : c1 = .region 0 r1 false := by kernel_rfl
theorem e2 : c2 = .seq c3 c10 := by kernel_rfl
theorem e3 : c3 = .seq c4 c5 := by kernel_rfl
noncomputable def r4 : Array Oper := match c4 with | .region _ x _ => x | _ => #[]
theorem e4 : c4 = .region 1 r4 false := by kernel_rfl
theorem e5 : c5 = .cond (.tmp 4) c6 c9 := by kernel_rfl
theorem e6 : c6 = .seq c7 c8 := by kernel_rfl
noncomputable def r7 : Array Oper := match c7 with | .region _ x _ => x | _ => #[]
theorem e7 : c7 = .region 2 r7 false := by kernel_rfl
theorem e8 : c8 = .ret := by kernel_rfl
theorem e9 : c9 = .skip := by kernel_rfl
theorem e10 : c10 = .seq c11 c12 := by kernel_rfl
noncomputable def r11 : Array Oper := match c11 with | .region _ x _ => x | _ => #[]
theorem e11 : c11 = .region 3 r11 false := by kernel_rfl
theorem e12 : c12 = .ret := by kernel_rfl
theorem body : Try.f39.body = some c0 := by kernel_rfl
section
variable {base : Nat} {W0 : World} {β0 : Bt}
def f (x0 : Sl) (S : HS) : Option ((Sl) × HS) :=
  (if (Option.isNone (Sl.a x0)) = true then
  some (Sl.nil, S) else
  (letv (HS.lit S [] 2) fun p2 =>
  (Option.bind (HS.rows (p2.2) x0 2) fun p3 =>
  (Option.bind (HS.app (p2.2) (p2.1) p3 2) fun p4 =>
  some ((p4.1), (p4.2))))))
theorem snd {x0 : Sl} {S : HS}  {p : (Sl) × HS} (h : f x0 S = some p) : HCall Try.prog base W0 β0 39 [(Sl.hv x0)] S (fun v S1 => v = (Sl.hv p.1) ∧ S1 = p.2) := by
  unfold f at h
  refine HCall.of_run at_.at_ body ?_
  show HRun Try.prog base W0 β0 39 none [.code c0] ⟨[(Sl.hv x0), .tup [], .tup [], .tup [], .tup [], .tup [], .tup [], .tup []], []⟩ S _
  refine q_seq e0 ?_
  refine q_region e1 rfl ?_
  refine q_op (dst := some 2) rfl (fun _ ho => ok_assign ho (.const fun _ => .slNil none)) ?_
  refine hr_region_end ?_
  try dsimp only [HAct.put, List.set_cons_zero, List.set_cons_succ]
  refine q_seq e2 ?_
  refine q_seq e3 ?_
  refine q_region e4 rfl ?_
  refine q_op (dst := some 3) rfl (fun _ ho => ok_move ho (.tmp rfl)) ?_
  refine q_op (dst := some 4) rfl (fun _ ho => ok_nil_sl ho tu58 (.tmp rfl) (.inl ⟨rfl, rfl⟩)) ?_
  refine hr_region_end ?_
  try dsimp only [HAct.put, List.set_cons_zero, List.set_cons_succ]
  rcases ifc h with ⟨hc1, h⟩ | ⟨hc1, h⟩
  · refine q_cond_t e5 (.tmp rfl) hc1 ?_
    refine q_seq e6 ?_
    refine q_region e7 rfl ?_
    refine q_op (dst := some 2) rfl (fun _ ho => ok_assign ho (.const fun _ => .slNil none)) ?_
    refine hr_region_end ?_
    try dsimp only [HAct.put, List.set_cons_zero, List.set_cons_succ]
    cases h
    exact q_ret e8 at_.at_ rfl (res1 rfl rfl) ⟨rfl, rfl⟩
  · refine q_cond_f e5 (.tmp rfl) (bfalse hc1) ?_
    refine q_skipc e9 ?_
    refine q_seq e10 ?_
    refine q_region e11 rfl ?_
    obtain ⟨p2, hp2, h⟩ := leto h
    refine q_op (dst := some 5) rfl (fun _ ho => ok_buildSlice_s (xs := []) el58 ho rfl rfl (by decide) Evs.nil rfl rfl hp2) ?_
    refine q_op (dst := some 6) rfl (fun _ ho => ok_move ho (.tmp rfl)) ?_
    obtain ⟨p3, hp3, h⟩ := bindo h
    obtain ⟨p4, hp4, h⟩ := bindo h
    refine q_op (dst := some 7) rfl (fun _ ho => ok_append (s := (p2.1)) (s1 := x0) el58 ho rfl rfl ⟨_, tu58⟩ (.tmp rfl) (.tmp rfl) hp3 hp4) ?_
    refine q_op (dst := some 2) rfl (fun _ ho => ok_assign ho (.tmp rfl)) ?_
    refine hr_region_end ?_
    try dsimp only [HAct.put, List.set_cons_zero, List.set_cons_succ]
    cases h
    exact q_ret e12 at_.at_ rfl (res1 rfl rfl) ⟨rfl, rfl⟩
end
end slices_Clone_timer_item_string_timer_item_string
namespace timer_Table_string_Due_1
abbrev id : Nat := 40
theorem at_ : FnAt Try.prog 40 Try.f40 := ⟨Try.func40, by kernel_rfl⟩
noncomputable def c0 : Code := (Try.f40.body).getD .skip
noncomputable def c1 : Code := match c0 with | .seq x _ => x | _ => .skip
noncomputable def c2 : Code := match c0 with | .seq _ x => x | _ => .skip
noncomputable def c3 : Code := match c2 with | .block _ x => x | _ => .skip
noncomputable def c4 : Code := match c3 with | .loop x => x | _ => .skip
noncomputable def c5 : Code := match c4 with | .seq x _ => x | _ => .skip
noncomputable def c6 : Code := match c4 with | .seq _ x => x | _ => .skip
noncomputable def c7 : Code := match c6 with | .seq x _ => x | _ => .skip
noncomputable def c8 : Code := match c7 with | .cond _ x _ => x | _ => .skip
noncomputable def c9 : Code := match c7 with | .cond _ _ x => x | _ => .skip
noncomputable def c10 : Code := match c6 with | .seq _ x => x | _ => .skip
noncomputable def c11 : Code := match c10 with | .seq x _ => x | _ => .skip
noncomputable def c12 : Code := match c11 with | .block _ x => x | _ => .skip
noncomputable def c13 : Code := match c12 with | .seq x _ => x | _ => .skip
noncomputable def c14 : Code := match c12 with | .seq _ x => x | _ => .skip
noncomputable def c15 : Code := match c14 with | .seq x _ => x | _ => .skip
noncomputable def c16 : Code := match c14 with | .seq _ x => x | _ => .skip
noncomputable def c17 : Code := match c16 with | .cond _ x _ => x | _ => .skip
noncomputable def c18 : Code := match c16 with | .cond _ _ x => x | _ => .skip
noncomputable def c19 : Code := match c10 with | .seq _ x => x | _ => .skip
theorem e0 : c0 = .seq c1 c2 := by kernel_rfl
noncomputable def r1 : Array Oper := match c1 with | .region _ x _ => x | _ => #[]
theorem e1 : c1 = .region 0 r1 false := by kernel_rfl
theorem e2 : c2 = .block 0 c3 := by kernel_rfl
theorem e3 : c3 = .loop c4 := by kernel_rfl
theorem e4 : c4 = .seq c5 c6 := by kernel_rfl
noncomputable def r5 : Array Oper := match c5 with | .region _ x _ => x | _ => #[]
theorem e5 : c5 = .region 1 r5 false := by kernel_rfl
theorem e6 : c6 = .seq c7 c10 := by kernel_rfl
theorem e7 : c7 = .cond (.tmp 8) c8 c9 := by kernel_rfl
theorem e8 : c8 = .skip := by kernel_rfl
theorem e9 : c9 = .exit 0 := by kernel_rfl
theorem e10 : c10 = .seq c11 c19 := by kernel_rfl
theorem e11 : c11 = .block 1 c12 := by kernel_rfl
theorem e12 : c12 = .seq c13 c14 := by kernel_rfl
noncomputable def r13 : Array Oper := match c13 with | .region _ x _ => x | _ => #[]
theorem e13 : c13 = .region 2 r13 false := by kernel_rfl
theorem e14 : c14 = .seq c15 c16 := by kernel_rfl
noncomputable def r15 : Array Oper := match c15 with | .region _ x _ => x | _ => #[]
theorem e15 : c15 = .region 3 r15 false := by kernel_rfl
theorem e16 : c16 = .cond (.tmp 17) c17 c18 := by kernel_rfl
theorem e17 : c17 = .ret := by kernel_rfl
theorem e18 : c18 = .skip := by kernel_rfl
noncomputable def r19 : Array Oper := match c19 with | .region _ x _ => x | _ => #[]
theorem e19 : c19 = .region 4 r19 false := by kernel_rfl
theorem body : Try.f40.body = some c0 := by kernel_rfl
section
variable {base : Nat} {W0 : World} {β0 : Bt}
def L0 (D : Dp) (H : Hd) (k : Nat) : Nat → HV → Sl → Int → Int → HS → Option ((Unit) × HS)
  | 0, _, _, _, _, _ => none
  | n + 1, y0, y5, y6, y7, S =>
    (if y7 < y6 then
    (Option.bind (HS.idx S y5 y7 2) fun p4 =>
    (Option.bind (HS.ldS S (HA.fld p4 0)) fun p5 =>
    (Option.bind (HS.ldI S .i64 (HA.fld p4 1)) fun p6 =>
    (letv (HS.new S (.cells 2 [[(.str []), (.int .i64 0)]] true)) fun p7 =>
    (Option.bind (HS.sets p7 (HA.cell0 S.next) [(.str p5), (.int .i64 p6)]) fun p8 =>
    (Option.bind (HS.ldS p8 (HA.fld (HA.cell0 S.next) 0)) fun p9 =>
    (Option.bind (HS.ldI p8 .i64 (HA.fld (HA.cell0 S.next) 1)) fun p10 =>
    (Option.bind (D H y0 [(.str p9), (.int .i64 p10)] p8) fun p11 =>
    (Option.bind (dB p11.1) fun p12 =>
    (if (!p12) = true then
    some ((), p11.2) else
    (L0 D H k n) y0 y5 y6 (w64 (y7 + 1)) p11.2)))))))))) else
    some ((), S))
theorem L0_snd {D : Dp} {H : Hd} {k : Nat} (hD : DSound Try.prog base W0 D) (hH : HSound Try.prog base W0 β0 H)  : ∀ {n : Nat} ⦃y0 : HV⦄ ⦃y5 : Sl⦄ ⦃y6 : Int⦄ ⦃y7 : Int⦄ ⦃S : HS⦄ ⦃p : (Unit) × HS⦄ ⦃g1 g2 g3 g4 g8 g9 g10 g11 g12 g13 g14 g15 g16 g17 g18 : HV⦄, L0 D H k n y0 y5 y6 y7 S = some p → HRun Try.prog base W0 β0 40 none [.inLoop c4, .inBlock 0] ⟨[y0, g1, g2, g3, g4, (Sl.hv y5), (.int .i64 y6), (.int .i64 y7), g8, g9, g10, g11, g12, g13, g14, g15, g16, g17, g18], []⟩ S (fun v S1 => v = (.tup []) ∧ S1 = p.2) := by
  intro n
  induction n with
  | zero => intro _ _ _ _ _ _ _ _ _ _ _ _ _ _ _ _ _ _ _ _ _ h; cases h
  | succ n ih =>
    intro y0 y5 y6 y7 S p g1 g2 g3 g4 g8 g9 g10 g11 g12 g13 g14 g15 g16 g17 g18 h
    simp only [L0] at h
    refine hr_inLoop ?_
    refine q_seq e4 ?_
    refine q_region e5 rfl ?_
    refine q_op (dst := some 8) rfl (fun _ ho => ok_ibin ho (.tmp rfl) (.tmp rfl) rfl) ?_
    refine hr_region_end ?_
    try dsimp only [HAct.put, List.set_cons_zero, List.set_cons_succ]
    refine q_seq e6 ?_
    rcases ifc h with ⟨hc3, h⟩ | ⟨hc3, h⟩
    · refine q_cond_t e7 (.tmp rfl) (decide_eq_true hc3) ?_
      refine q_skipc e8 ?_
      refine q_seq e10 ?_
      refine q_block e11 ?_
      refine q_seq e12 ?_
      refine q_region e13 rfl ?_
      obtain ⟨p4, hp4, h⟩ := bindo h
      refine q_op (dst := some 9) rfl (fun _ ho => ok_indexAddr (s := y5) ho tu58 sz63 (.tmp rfl) (.tmp rfl) hp4) ?_
      obtain ⟨p5, hp5, h⟩ := bindo h
      obtain ⟨p6, hp6, h⟩ := bindo h
      refine q_op (dst := some 10) rfl (fun _ ho => ok_load_a (vs := [(.str p5), (.int .i64 p6)]) ho ia63 (.tmp rfl) rfl ⟨ldS_out hp5, ldI_out hp6, trivial⟩ (by simp)) ?_
      obtain ⟨p7, hp7, h⟩ := leto h
      refine q_op (dst := some 4) rfl (fun _ ho => ok_alloc_e ho zi63 zr63 (by decide) rfl hp7) ?_
      obtain ⟨p8, hp8, h⟩ := bindo h
      refine q_op (dst := none) rfl (fun _ ho => ok_store_s (v := (.agg [(.str p5), (.int .i64 p6)])) ho sz63 (.tmp rfl) rfl (.tmp rfl) rfl hp8) ?_
      refine hr_region_end ?_
      try dsimp only [HAct.put, List.set_cons_zero, List.set_cons_succ]
      refine q_seq e14 ?_
      refine q_region e15 rfl ?_
      refine q_op (dst := some 11) rfl (fun _ ho => ok_move ho (.tmp rfl)) ?_
      refine q_op (dst := some 12) rfl (fun _ ho => ok_fieldAddr_s ho fi63_0 (by decide) (.tmp rfl) rfl) ?_
      obtain ⟨p9, hp9, h⟩ := bindo h
      refine q_op (dst := some 13) rfl (fun _ ho => ok_load_s ho sc9 (.tmp rfl) rfl (ldS_out hp9)) ?_
      refine q_op (dst := some 14) rfl (fun _ ho => ok_fieldAddr_s ho fi63_1 (by decide) (.tmp rfl) rfl) ?_
      try dsimp only [HAct.put, List.set_cons_zero, List.set_cons_succ]
      obtain ⟨p10, hp10, h⟩ := bindo h
      refine q_op (dst := some 15) rfl (fun _ ho => ok_load_s ho sc3 (.tmp rfl) rfl (ldI_out hp10)) ?_
      obtain ⟨p11, hp11, h⟩ := bindo h
      obtain ⟨p12, hp12, h⟩ := bindo h
      refine q_call (dst := some 16) rfl (.tmp rfl) (.cons (.tmp rfl) (.cons (.tmp rfl) Evs.nil)) (hD _ _ hH _ _ _ _ _ hp11) ?_
      rintro _ _ ⟨rfl, rfl⟩
      rw [dB_out hp12]
      refine q_op (dst := some 17) rfl (fun _ ho => ok_not ho (.tmp rfl)) ?_
      refine hr_region_end ?_
      try dsimp only [HAct.put, List.set_cons_zero, List.set_cons_succ]
      rcases ifc h with ⟨hc13, h⟩ | ⟨hc13, h⟩
      · refine q_cond_t e16 (.tmp rfl) hc13 ?_
        cases h
        exact q_ret e17 at_.at_ rfl (res0 rfl) ⟨rfl, rfl⟩
      · refine q_cond_f e16 (.tmp rfl) (bfalse hc13) ?_
        refine q_skipc e18 ?_
        refine hr_inBlock ?_
        refine q_region e19 rfl ?_
        refine q_op (dst := some 18) rfl (fun _ ho => ok_ibin ho (.tmp rfl) (.int _ _) rfl) ?_
        refine q_op (dst := some 7) rfl (fun _ ho => ok_move ho (.tmp rfl)) ?_
        refine hr_region_end ?_
        try dsimp only [HAct.put, List.set_cons_zero, List.set_cons_succ]
        try dsimp only [HAct.put, List.set_cons_zero, List.set_cons_succ]
        exact ih h
    · refine q_cond_f e7 (.tmp rfl) (decide_eq_false hc3) ?_
      refine q_exit e9 rfl ?_
      cases h
      exact q_end at_.at_ rfl (res0 rfl) ⟨rfl, rfl⟩
def f (D : Dp) (H : Hd) (k : Nat) (x0 : HV) (x1 : (Option HA)) (S : HS) : Option ((Unit) × HS) :=
  (Option.bind (x1) fun p1 =>
  (Option.bind (HS.ldSl S p1) fun p2 =>
  L0 D H k k x0 p2 (Sl.len p2 : Int) 0 S))
theorem snd {D : Dp} {H : Hd} {k : Nat} {x0 : HV} {x1 : (Option HA)} {S : HS} (hD : DSound Try.prog base W0 D) (hH : HSound Try.prog base W0 β0 H)  {p : (Unit) × HS} (h : f D H k x0 x1 S = some p) : HCall Try.prog base W0 β0 40 [x0, (.ptr x1)] S (fun v S1 => v = (.tup []) ∧ S1 = p.2) := by
  unfold f at h
  refine HCall.of_run at_.at_ body ?_
  show HRun Try.prog base W0 β0 40 none [.code c0] ⟨[x0, (.ptr x1), .tup [], .tup [], .tup [], .tup [], .tup [], .tup [], .tup [], .tup [], .tup [], .tup [], .tup [], .tup [], .tup [], .tup [], .tup [], .tup [], .tup []], []⟩ S _
  refine q_seq e0 ?_
  refine q_region e1 rfl ?_
  obtain ⟨p1, hp1, h⟩ := bindo h
  obtain ⟨p2, hp2, h⟩ := bindo h
  refine q_op (dst := some 5) rfl (fun _ ho => ok_load_s ho sc58 (.tmp rfl) hp1 (ldSl_out hp2)) ?_
  refine q_op (dst := some 6) rfl (fun _ ho => ok_len_sl (q := Sl.a p2) (n := Sl.len p2) (z := Sl.cap p2) ho rfl tu58 (.tmp rfl)) ?_
  refine q_op (dst := some 7) rfl (fun _ ho => ok_move ho (.int _ _)) ?_
  refine hr_region_end ?_
  try dsimp only [HAct.put, List.set_cons_zero, List.set_cons_succ]
  refine q_block e2 ?_
  refine q_loop e3 ?_
  try dsimp only [HAct.put, List.set_cons_zero, List.set_cons_succ]
  exact L0_snd hD hH h
end
end timer_Table_string_Due_1
end Go.Proofs.Ytlfdfkldolgkoaa.X
