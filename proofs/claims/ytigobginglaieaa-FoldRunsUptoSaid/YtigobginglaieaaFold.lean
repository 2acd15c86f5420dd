/- Functions of the program, each as a Lean function over the layer HL: a call answers what the Lean function answers, where it answers. -/
import Derived.Test.YtigobginglaieaaProg
import Derived.Test.YtigobginglaieaaHLo
namespace Go.Proofs.Ytigobginglaieaa.X
open Go.Proofs.Ytigobginglaieaa.HL
set_option linter.unusedVariables false
set_option linter.unusedSimpArgs false
set_option maxRecDepth 20000
theorem tu9 : Try.prog.underlying 9 = some .string := by kernel_rfl
theorem el34 : ElemAt Try.prog 34 5 1 [(.int .u8 0)] := elemAt_mk (zv := (.int .u8 0)) (by_ := 1) (by kernel_rfl) (by kernel_rfl) (by decide) (fun β => VRels.cons (.int _ _) (VRels.nil β)) rfl (by decide) rfl
theorem tu34 : Try.prog.underlying 34 = some (.slice 5) := by kernel_rfl
theorem tu5 : Try.prog.underlying 5 = some (.int .u8) := by kernel_rfl
theorem tu4 : Try.prog.underlying 4 = some .bool := by kernel_rfl
theorem sc9 : Scalar Try.prog 9 := ⟨.string, by kernel_rfl, trivial⟩
theorem zi9 : (Try.prog.info? 9).map (·.zero) = some (some (.string ⟨#[]⟩)) := by kernel_rfl
theorem zr9 : ∀ β, VRels β [(.str [])] (Value.cells (.string ⟨#[]⟩)) := fun β => VRels.cons (.str []) (VRels.nil β)
theorem sz9 : ∃ q, Try.prog.info? 9 = some q ∧ q.size = 1 := size_mk' (by kernel_rfl)
theorem zi4 : (Try.prog.info? 4).map (·.zero) = some (some (.bool false)) := by kernel_rfl
theorem zr4 : ∀ β, VRels β [(.bool false)] (Value.cells (.bool false)) := fun β => VRels.cons (.bool _) (VRels.nil β)
theorem sz4 : ∃ q, Try.prog.info? 4 = some q ∧ q.size = 1 := size_mk' (by kernel_rfl)
theorem tu32 : Try.prog.underlying 32 = some (.func #[35] #[] false) := by kernel_rfl
theorem sc4 : Scalar Try.prog 4 := ⟨.bool, by kernel_rfl, trivial⟩
namespace fold_Byte
abbrev id : Nat := 13
theorem at_ : FnAt Try.prog 13 Try.f13 := ⟨Try.func13, by kernel_rfl⟩
noncomputable def c0 : Code := (Try.f13.body).getD .skip
noncomputable def c1 : Code := match c0 with | .seq x _ => x | _ => .skip
noncomputable def c2 : Code := match c0 with | .seq _ x => x | _ => .skip
noncomputable def c3 : Code := match c2 with | .seq x _ => x | _ => .skip
noncomputable def c4 : Code := match c3 with | .block _ x => x | _ => .skip
noncomputable def c5 : Code := match c4 with | .seq x _ => x | _ => .skip
noncomputable def c6 : Code := match c4 with | .seq _ x => x | _ => .skip
noncomputable def c7 : Code := match c6 with | .cond _ x _ => x | _ => .skip
noncomputable def c8 : Code := match c7 with | .seq x _ => x | _ => .skip
noncomputable def c9 : Code := match c7 with | .seq _ x => x | _ => .skip
noncomputable def c10 : Code := match c6 with | .cond _ _ x => x | _ => .skip
noncomputable def c11 : Code := match c10 with | .seq x _ => x | _ => .skip
noncomputable def c12 : Code := match c10 with | .seq _ x => x | _ => .skip
noncomputable def c13 : Code := match c12 with | .cond _ x _ => x | _ => .skip
noncomputable def c14 : Code := match c13 with | .seq x _ => x | _ => .skip
noncomputable def c15 : Code := match c13 with | .seq _ x => x | _ => .skip
noncomputable def c16 : Code := match c12 with | .cond _ _ x => x | _ => .skip
noncomputable def c17 : Code := match c16 with | .seq x _ => x | _ => .skip
noncomputable def c18 : Code := match c16 with | .seq _ x => x | _ => .skip
noncomputable def c19 : Code := match c18 with | .cond _ x _ => x | _ => .skip
noncomputable def c20 : Code := match c19 with | .seq x _ => x | _ => .skip
noncomputable def c21 : Code := match c19 with | .seq _ x => x | _ => .skip
noncomputable def c22 : Code := match c18 with | .cond _ _ x => x | _ => .skip
noncomputable def c23 : Code := match c2 with | .seq _ x => x | _ => .skip
noncomputable def c24 : Code := match c23 with | .seq x _ => x | _ => .skip
noncomputable def c25 : Code := match c23 with | .seq _ x => x | _ => .skip
theorem e0 : c0 = .seq c1 c2 := by kernel_rfl
noncomputable def r1 : Array Oper := match c1 with | .region _ x _ => x | _ => #[]
theorem e1 : c1 = .region 0 r1 false := by kernel_rfl
theorem e2 : c2 = .seq c3 c23 := by kernel_rfl
theorem e3 : c3 = .block 0 c4 := by kernel_rfl
theorem e4 : c4 = .seq c5 c6 := by kernel_rfl
noncomputable def r5 : Array Oper := match c5 with | .region _ x _ => x | _ => #[]
theorem e5 : c5 = .region 1 r5 false := by kernel_rfl
theorem e6 : c6 = .cond (.tmp 3) c7 c10 := by kernel_rfl
theorem e7 : c7 = .seq c8 c9 := by kernel_rfl
noncomputable def r8 : Array Oper := match c8 with | .region _ x _ => x | _ => #[]
theorem e8 : c8 = .region 2 r8 false := by kernel_rfl
theorem e9 : c9 = .ret := by kernel_rfl
theorem e10 : c10 = .seq c11 c12 := by kernel_rfl
noncomputable def r11 : Array Oper := match c11 with | .region _ x _ => x | _ => #[]
theorem e11 : c11 = .region 3 r11 false := by kernel_rfl
theorem e12 : c12 = .cond (.tmp 12) c13 c16 := by kernel_rfl
theorem e13 : c13 = .seq c14 c15 := by kernel_rfl
noncomputable def r14 : Array Oper := match c14 with | .region _ x _ => x | _ => #[]
theorem e14 : c14 = .region 4 r14 false := by kernel_rfl
theorem e15 : c15 = .ret := by kernel_rfl
theorem e16 : c16 = .seq c17 c18 := by kernel_rfl
noncomputable def r17 : Array Oper := match c17 with | .region _ x _ => x | _ => #[]
theorem e17 : c17 = .region 5 r17 false := by kernel_rfl
theorem e18 : c18 = .cond (.tmp 25) c19 c22 := by kernel_rfl
theorem e19 : c19 = .seq c20 c21 := by kernel_rfl
noncomputable def r20 : Array Oper := match c20 with | .region _ x _ => x | _ => #[]
theorem e20 : c20 = .region 6 r20 false := by kernel_rfl
theorem e21 : c21 = .ret := by kernel_rfl
theorem e22 : c22 = .skip := by kernel_rfl
theorem e23 : c23 = .seq c24 c25 := by kernel_rfl
noncomputable def r24 : Array Oper := match c24 with | .region _ x _ => x | _ => #[]
theorem e24 : c24 = .region 7 r24 false := by kernel_rfl
theorem e25 : c25 = .ret := by kernel_rfl
theorem body : Try.f13.body = some c0 := by kernel_rfl
section
variable {base : Nat} {W0 : World} {β0 : Bt}
def J2  (y0 : Int) (y22 : Bool) : Option (Int) :=
  (if y22 = true then
  some (w8 (y0 + 32)) else
  (if y0 = 126 then
  some 94 else
  some y0))
theorem J2_snd   {y0 : Int} {y22 : Bool} {S : HS} {p : Int} {g1 g2 g3 g4 g5 g6 g7 g8 g9 g10 g11 g12 g13 g14 g15 g16 g17 g18 g19 g20 g21 g23 g24 g25 g26 g27 g28 : HV} (h : J2  y0 y22 = some p) : HRun Try.prog base W0 β0 13 none [.inRegion r11 [10], .code c12, .inBlock 0, .code c23] ⟨[(.int .u8 y0), g1, g2, g3, g4, g5, g6, g7, g8, g9, g10, g11, g12, g13, g14, g15, g16, g17, g18, g19, g20, g21, (.bool y22), g23, g24, g25, g26, g27, g28], []⟩ S (fun v S1 => v = (.int .u8 p) ∧ S1 = S) := by
  unfold J2 at h
  refine q_op (dst := some 12) rfl (fun _ ho => ok_assign ho (.tmp rfl)) ?_
  refine hr_region_end ?_
  try simp only [HAct.put, List.set_cons_zero, List.set_cons_succ]
  rcases ifc h with ⟨hc5, h⟩ | ⟨hc5, h⟩
  · refine q_cond_t e12 (.tmp rfl) hc5 ?_
    refine q_seq e13 ?_
    refine q_region e14 rfl ?_
    refine q_op (dst := some 23) rfl (fun _ ho => ok_move ho (.tmp rfl)) ?_
    refine q_op (dst := some 24) rfl (fun _ ho => ok_ibin ho (.tmp rfl) (.int _ _) rfl) ?_
    refine q_op (dst := some 2) rfl (fun _ ho => ok_assign ho (.tmp rfl)) ?_
    refine hr_region_end ?_
    try simp only [HAct.put, List.set_cons_zero, List.set_cons_succ]
    cases h
    exact q_ret e15 at_.at_ rfl (res1 rfl rfl) ⟨rfl, rfl⟩
  · refine q_cond_f e12 (.tmp rfl) (bfalse hc5) ?_
    refine q_seq e16 ?_
    refine q_region e17 rfl ?_
    refine q_op (dst := some 26) rfl (fun _ ho => ok_move ho (.tmp rfl)) ?_
    refine q_op (dst := some 27) rfl (fun _ ho => ok_ibin ho (.tmp rfl) (.int _ _) rfl) ?_
    refine q_op (dst := some 25) rfl (fun _ ho => ok_assign ho (.tmp rfl)) ?_
    refine hr_region_end ?_
    try simp only [HAct.put, List.set_cons_zero, List.set_cons_succ]
    rcases ifc h with ⟨hc6, h⟩ | ⟨hc6, h⟩
    · refine q_cond_t e18 (.tmp rfl) (decide_eq_true hc6) ?_
      refine q_seq e19 ?_
      refine q_region e20 rfl ?_
      refine q_op (dst := some 2) rfl (fun _ ho => ok_assign ho (.int _ _)) ?_
      refine hr_region_end ?_
      try simp only [HAct.put, List.set_cons_zero, List.set_cons_succ]
      cases h
      exact q_ret e21 at_.at_ rfl (res1 rfl rfl) ⟨rfl, rfl⟩
    · refine q_cond_f e18 (.tmp rfl) (decide_eq_false hc6) ?_
      refine q_skipc e22 ?_
      refine hr_inBlock ?_
      refine q_seq e23 ?_
      refine q_region e24 rfl ?_
      refine q_op (dst := some 28) rfl (fun _ ho => ok_move ho (.tmp rfl)) ?_
      refine q_op (dst := some 2) rfl (fun _ ho => ok_assign ho (.tmp rfl)) ?_
      refine hr_region_end ?_
      try simp only [HAct.put, List.set_cons_zero, List.set_cons_succ]
      cases h
      exact q_ret e25 at_.at_ rfl (res1 rfl rfl) ⟨rfl, rfl⟩
def J1  (y0 : Int) (y18 : Bool) : Option (Int) :=
  (if y18 = true then
  J2 y0 true else
  J2 y0 (decide (y0 = 92)))
theorem J1_snd   {y0 : Int} {y18 : Bool} {S : HS} {p : Int} {g1 g2 g3 g4 g5 g6 g7 g8 g9 g10 g11 g12 g13 g14 g15 g16 g17 g19 g20 g21 g22 g23 g24 g25 g26 g27 g28 : HV} (h : J1  y0 y18 = some p) : HRun Try.prog base W0 β0 13 none [.inRegion r11 [6, 7, 8, 9, 10], .code c12, .inBlock 0, .code c23] ⟨[(.int .u8 y0), g1, g2, g3, g4, g5, g6, g7, g8, g9, g10, g11, g12, g13, g14, g15, g16, g17, (.bool y18), g19, g20, g21, g22, g23, g24, g25, g26, g27, g28], []⟩ S (fun v S1 => v = (.int .u8 p) ∧ S1 = S) := by
  unfold J1 at h
  refine q_op (dst := some 19) rfl (fun _ ho => ok_move ho (.tmp rfl)) ?_
  rcases ifc h with ⟨hc4, h⟩ | ⟨hc4, h⟩
  · refine q_skip (dst := some 20) (t := 19) rfl rfl rfl hc4 ?_
    try simp only [HAct.put, List.set_cons_zero, List.set_cons_succ]
    refine q_skip (dst := some 21) (t := 19) rfl rfl rfl hc4 ?_
    refine q_op (dst := some 22) rfl (fun _ ho => ok_pick_tt ho (.tmp rfl) hc4 (.bool _)) ?_
    try simp only [HAct.put, List.set_cons_zero, List.set_cons_succ]
    exact J2_snd  h
  · refine q_op_g (t := 19) (dst := some 20) rfl rfl rfl (bfalse hc4) (fun _ ho => ok_move ho (.tmp rfl)) ?_
    try simp only [HAct.put, List.set_cons_zero, List.set_cons_succ]
    refine q_op_g (t := 19) (dst := some 21) rfl rfl rfl (bfalse hc4) (fun _ ho => ok_ibin ho (.tmp rfl) (.int _ _) rfl) ?_
    refine q_op (dst := some 22) rfl (fun _ ho => ok_pick_ff ho (.tmp rfl) (bfalse hc4) (.tmp rfl)) ?_
    try simp only [HAct.put, List.set_cons_zero, List.set_cons_succ]
    exact J2_snd  h
def J0  (y0 : Int) (y9 : Bool) : Option (Int) :=
  (if y9 = true then
  some (w8 (y0 + 32)) else
  (if y0 = 91 then
  J1 y0 true else
  J1 y0 (decide (y0 = 93))))
theorem J0_snd   {y0 : Int} {y9 : Bool} {S : HS} {p : Int} {g1 g2 g3 g4 g5 g6 g7 g8 g10 g11 g12 g13 g14 g15 g16 g17 g18 g19 g20 g21 g22 g23 g24 g25 g26 g27 g28 : HV} (h : J0  y0 y9 = some p) : HRun Try.prog base W0 β0 13 none [.inRegion r5 [6], .code c6, .inBlock 0, .code c23] ⟨[(.int .u8 y0), g1, g2, g3, g4, g5, g6, g7, g8, (.bool y9), g10, g11, g12, g13, g14, g15, g16, g17, g18, g19, g20, g21, g22, g23, g24, g25, g26, g27, g28], []⟩ S (fun v S1 => v = (.int .u8 p) ∧ S1 = S) := by
  unfold J0 at h
  refine q_op (dst := some 3) rfl (fun _ ho => ok_assign ho (.tmp rfl)) ?_
  refine hr_region_end ?_
  try simp only [HAct.put, List.set_cons_zero, List.set_cons_succ]
  rcases ifc h with ⟨hc2, h⟩ | ⟨hc2, h⟩
  · refine q_cond_t e6 (.tmp rfl) hc2 ?_
    refine q_seq e7 ?_
    refine q_region e8 rfl ?_
    refine q_op (dst := some 10) rfl (fun _ ho => ok_move ho (.tmp rfl)) ?_
    refine q_op (dst := some 11) rfl (fun _ ho => ok_ibin ho (.tmp rfl) (.int _ _) rfl) ?_
    refine q_op (dst := some 2) rfl (fun _ ho => ok_assign ho (.tmp rfl)) ?_
    refine hr_region_end ?_
    try simp only [HAct.put, List.set_cons_zero, List.set_cons_succ]
    cases h
    exact q_ret e9 at_.at_ rfl (res1 rfl rfl) ⟨rfl, rfl⟩
  · refine q_cond_f e6 (.tmp rfl) (bfalse hc2) ?_
    refine q_seq e10 ?_
    refine q_region e11 rfl ?_
    refine q_op (dst := some 13) rfl (fun _ ho => ok_move ho (.tmp rfl)) ?_
    refine q_op (dst := some 14) rfl (fun _ ho => ok_ibin ho (.tmp rfl) (.int _ _) rfl) ?_
    refine q_op (dst := some 15) rfl (fun _ ho => ok_move ho (.tmp rfl)) ?_
    rcases ifc h with ⟨hc3, h⟩ | ⟨hc3, h⟩
    · refine q_skip (dst := some 16) (t := 15) rfl rfl rfl (decide_eq_true hc3) ?_
      try simp only [HAct.put, List.set_cons_zero, List.set_cons_succ]
      refine q_skip (dst := some 17) (t := 15) rfl rfl rfl (decide_eq_true hc3) ?_
      refine q_op (dst := some 18) rfl (fun _ ho => ok_pick_tt ho (.tmp rfl) (decide_eq_true hc3) (.bool _)) ?_
      try simp only [HAct.put, List.set_cons_zero, List.set_cons_succ]
      exact J1_snd  h
    · refine q_op_g (t := 15) (dst := some 16) rfl rfl rfl (decide_eq_false hc3) (fun _ ho => ok_move ho (.tmp rfl)) ?_
      try simp only [HAct.put, List.set_cons_zero, List.set_cons_succ]
      refine q_op_g (t := 15) (dst := some 17) rfl rfl rfl (decide_eq_false hc3) (fun _ ho => ok_ibin ho (.tmp rfl) (.int _ _) rfl) ?_
      refine q_op (dst := some 18) rfl (fun _ ho => ok_pick_ff ho (.tmp rfl) (decide_eq_false hc3) (.tmp rfl)) ?_
      try simp only [HAct.put, List.set_cons_zero, List.set_cons_succ]
      exact J1_snd  h
def f (x0 : Int) : Option (Int) :=
  (if x0 ≥ 65 then
  J0 x0 (decide (x0 ≤ 90)) else
  J0 x0 false)
theorem snd {x0 : Int} {S : HS}  {p : Int} (h : f x0 = some p) : HCall Try.prog base W0 β0 13 [(.int .u8 x0)] S (fun v S1 => v = (.int .u8 p) ∧ S1 = S) := by
  unfold f at h
  refine HCall.of_run at_.at_ body ?_
  show HRun Try.prog base W0 β0 13 none [.code c0] ⟨[(.int .u8 x0), .tup [], .tup [], .tup [], .tup [], .tup [], .tup [], .tup [], .tup [], .tup [], .tup [], .tup [], .tup [], .tup [], .tup [], .tup [], .tup [], .tup [], .tup [], .tup [], .tup [], .tup [], .tup [], .tup [], .tup [], .tup [], .tup [], .tup [], .tup []], []⟩ S _
  refine q_seq e0 ?_
  refine q_region e1 rfl ?_
  refine q_op (dst := some 2) rfl (fun _ ho => ok_assign ho (.int _ _)) ?_
  refine hr_region_end ?_
  try simp only [HAct.put, List.set_cons_zero, List.set_cons_succ]
  refine q_seq e2 ?_
  refine q_block e3 ?_
  refine q_seq e4 ?_
  refine q_region e5 rfl ?_
  refine q_op (dst := some 4) rfl (fun _ ho => ok_move ho (.tmp rfl)) ?_
  refine q_op (dst := some 5) rfl (fun _ ho => ok_ibin ho (.tmp rfl) (.int _ _) rfl) ?_
  refine q_op (dst := some 6) rfl (fun _ ho => ok_move ho (.tmp rfl)) ?_
  rcases ifc h with ⟨hc1, h⟩ | ⟨hc1, h⟩
  · refine q_op_g (t := 6) (dst := some 7) rfl rfl rfl (decide_eq_true hc1) (fun _ ho => ok_move ho (.tmp rfl)) ?_
    try simp only [HAct.put, List.set_cons_zero, List.set_cons_succ]
    refine q_op_g (t := 6) (dst := some 8) rfl rfl rfl (decide_eq_true hc1) (fun _ ho => ok_ibin ho (.tmp rfl) (.int _ _) rfl) ?_
    refine q_op (dst := some 9) rfl (fun _ ho => ok_pick_tt ho (.tmp rfl) (decide_eq_true hc1) (.tmp rfl)) ?_
    try simp only [HAct.put, List.set_cons_zero, List.set_cons_succ]
    exact J0_snd  h
  · refine q_skip (dst := some 7) (t := 6) rfl rfl rfl (decide_eq_false hc1) ?_
    try simp only [HAct.put, List.set_cons_zero, List.set_cons_succ]
    refine q_skip (dst := some 8) (t := 6) rfl rfl rfl (decide_eq_false hc1) ?_
    refine q_op (dst := some 9) rfl (fun _ ho => ok_pick_ff ho (.tmp rfl) (decide_eq_false hc1) (.bool _)) ?_
    try simp only [HAct.put, List.set_cons_zero, List.set_cons_succ]
    exact J0_snd  h
end
end fold_Byte
namespace fold_Text
abbrev id : Nat := 10
theorem at_ : FnAt Try.prog 10 Try.f10 := ⟨Try.func10, by kernel_rfl⟩
noncomputable def c0 : Code := (Try.f10.body).getD .skip
noncomputable def c1 : Code := match c0 with | .seq x _ => x | _ => .skip
noncomputable def c2 : Code := match c0 with | .seq _ x => x | _ => .skip
noncomputable def c3 : Code := match c2 with | .seq x _ => x | _ => .skip
noncomputable def c4 : Code := match c2 with | .seq _ x => x | _ => .skip
noncomputable def c5 : Code := match c4 with | .seq x _ => x | _ => .skip
noncomputable def c6 : Code := match c5 with | .seq x _ => x | _ => .skip
noncomputable def c7 : Code := match c5 with | .seq _ x => x | _ => .skip
noncomputable def c8 : Code := match c7 with | .block _ x => x | _ => .skip
noncomputable def c9 : Code := match c8 with | .loop x => x | _ => .skip
noncomputable def c10 : Code := match c9 with | .seq x _ => x | _ => .skip
noncomputable def c11 : Code := match c9 with | .seq _ x => x | _ => .skip
noncomputable def c12 : Code := match c11 with | .seq x _ => x | _ => .skip
noncomputable def c13 : Code := match c12 with | .cond _ x _ => x | _ => .skip
noncomputable def c14 : Code := match c12 with | .cond _ _ x => x | _ => .skip
noncomputable def c15 : Code := match c11 with | .seq _ x => x | _ => .skip
noncomputable def c16 : Code := match c15 with | .seq x _ => x | _ => .skip
noncomputable def c17 : Code := match c16 with | .block _ x => x | _ => .skip
noncomputable def c18 : Code := match c17 with | .seq x _ => x | _ => .skip
noncomputable def c19 : Code := match c17 with | .seq _ x => x | _ => .skip
noncomputable def c20 : Code := match c15 with | .seq _ x => x | _ => .skip
noncomputable def c21 : Code := match c4 with | .seq _ x => x | _ => .skip
noncomputable def c22 : Code := match c21 with | .seq x _ => x | _ => .skip
noncomputable def c23 : Code := match c21 with | .seq _ x => x | _ => .skip
theorem e0 : c0 = .seq c1 c2 := by kernel_rfl
noncomputable def r1 : Array Oper := match c1 with | .region _ x _ => x | _ => #[]
theorem e1 : c1 = .region 0 r1 false := by kernel_rfl
theorem e2 : c2 = .seq c3 c4 := by kernel_rfl
noncomputable def r3 : Array Oper := match c3 with | .region _ x _ => x | _ => #[]
theorem e3 : c3 = .region 1 r3 false := by kernel_rfl
theorem e4 : c4 = .seq c5 c21 := by kernel_rfl
theorem e5 : c5 = .seq c6 c7 := by kernel_rfl
noncomputable def r6 : Array Oper := match c6 with | .region _ x _ => x | _ => #[]
theorem e6 : c6 = .region 2 r6 false := by kernel_rfl
theorem e7 : c7 = .block 0 c8 := by kernel_rfl
theorem e8 : c8 = .loop c9 := by kernel_rfl
theorem e9 : c9 = .seq c10 c11 := by kernel_rfl
noncomputable def r10 : Array Oper := match c10 with | .region _ x _ => x | _ => #[]
theorem e10 : c10 = .region 3 r10 false := by kernel_rfl
theorem e11 : c11 = .seq c12 c15 := by kernel_rfl
theorem e12 : c12 = .cond (.tmp 11) c13 c14 := by kernel_rfl
theorem e13 : c13 = .skip := by kernel_rfl
theorem e14 : c14 = .exit 0 := by kernel_rfl
theorem e15 : c15 = .seq c16 c20 := by kernel_rfl
theorem e16 : c16 = .block 1 c17 := by kernel_rfl
theorem e17 : c17 = .seq c18 c19 := by kernel_rfl
noncomputable def r18 : Array Oper := match c18 with | .region _ x _ => x | _ => #[]
theorem e18 : c18 = .region 4 r18 false := by kernel_rfl
noncomputable def r19 : Array Oper := match c19 with | .region _ x _ => x | _ => #[]
theorem e19 : c19 = .region 5 r19 false := by kernel_rfl
noncomputable def r20 : Array Oper := match c20 with | .region _ x _ => x | _ => #[]
theorem e20 : c20 = .region 6 r20 false := by kernel_rfl
theorem e21 : c21 = .seq c22 c23 := by kernel_rfl
noncomputable def r22 : Array Oper := match c22 with | .region _ x _ => x | _ => #[]
theorem e22 : c22 = .region 7 r22 false := by kernel_rfl
theorem e23 : c23 = .ret := by kernel_rfl
theorem body : Try.f10.body = some c0 := by kernel_rfl
section
variable {base : Nat} {W0 : World} {β0 : Bt}
def L0 (k : Nat) : Nat → (List UInt8) → Sl → Int → Int → HS → Option (((List UInt8)) × HS)
  | 0, _, _, _, _, _ => none
  | n + 1, y0, y3, y9, y10, S =>
    (if y10 < y9 then
    (Option.bind (sat y0 y10) fun p3 =>
    (Option.bind (fold_Byte.f (UInt8.toNat p3 : Int)) fun p4 =>
    (letv (HS.lit S [[(.int .u8 p4)]] 1) fun p5 =>
    (Option.bind (HS.rows (p5.2) (p5.1) 1) fun p6 =>
    (Option.bind (HS.app (p5.2) y3 p6 1) fun p7 =>
    (L0 k n) y0 (p7.1) y9 (w64 (y10 + 1)) (p7.2)))))) else
    (Option.bind (HS.text S y3) fun p8 =>
    some (p8, S)))
theorem L0_snd {k : Nat}  : ∀ {n : Nat} ⦃y0 : (List UInt8)⦄ ⦃y3 : Sl⦄ ⦃y9 : Int⦄ ⦃y10 : Int⦄ ⦃S : HS⦄ ⦃p : ((List UInt8)) × HS⦄ ⦃g1 g2 g4 g5 g6 g7 g8 g11 g12 g13 g14 g15 g16 g17 g18 g19 g20 g21 g22 : HV⦄, L0 k n y0 y3 y9 y10 S = some p → HRun Try.prog base W0 β0 10 none [.inLoop c9, .inBlock 0, .code c21] ⟨[(.str y0), g1, g2, (Sl.hv y3), g4, g5, g6, g7, g8, (.int .i64 y9), (.int .i64 y10), g11, g12, g13, g14, g15, g16, g17, g18, g19, g20, g21, g22], []⟩ S (fun v S1 => v = (.str p.1) ∧ S1 = p.2) := by
  intro n
  induction n with
  | zero => intro _ _ _ _ _ _ _ _ _ _ _ _ _ _ _ _ _ _ _ _ _ _ _ _ _ h; cases h
  | succ n ih =>
    intro y0 y3 y9 y10 S p g1 g2 g4 g5 g6 g7 g8 g11 g12 g13 g14 g15 g16 g17 g18 g19 g20 g21 g22 h
    simp only [L0] at h
    refine hr_inLoop ?_
    refine q_seq e9 ?_
    refine q_region e10 rfl ?_
    refine q_op (dst := some 11) rfl (fun _ ho => ok_ibin ho (.tmp rfl) (.tmp rfl) rfl) ?_
    refine hr_region_end ?_
    try simp only [HAct.put, List.set_cons_zero, List.set_cons_succ]
    refine q_seq e11 ?_
    rcases ifc h with ⟨hc2, h⟩ | ⟨hc2, h⟩
    · refine q_cond_t e12 (.tmp rfl) (decide_eq_true hc2) ?_
      refine q_skipc e13 ?_
      refine q_seq e15 ?_
      refine q_block e16 ?_
      refine q_seq e17 ?_
      refine q_region e18 rfl ?_
      refine q_op (dst := some 12) rfl (fun _ ho => ok_move ho (.tmp rfl)) ?_
      refine q_op (dst := some 4) rfl (fun _ ho => ok_assign ho (.tmp rfl)) ?_
      refine hr_region_end ?_
      try simp only [HAct.put, List.set_cons_zero, List.set_cons_succ]
      refine q_region e19 rfl ?_
      refine q_op (dst := some 13) rfl (fun _ ho => ok_move ho (.tmp rfl)) ?_
      refine q_op (dst := some 14) rfl (fun _ ho => ok_move ho (.tmp rfl)) ?_
      refine q_op (dst := some 15) rfl (fun _ ho => ok_move ho (.tmp rfl)) ?_
      obtain ⟨p3, hp3, h⟩ := bindo h
      refine q_op (dst := some 16) rfl (fun _ ho => ok_index_s ho tu9 (.tmp rfl) (.tmp rfl) hp3) ?_
      try simp only [HAct.put, List.set_cons_zero, List.set_cons_succ]
      obtain ⟨p4, hp4, h⟩ := bindo h
      refine q_call (dst := some 17) rfl (.func _) (.cons (.tmp rfl) Evs.nil) (HInv.static fold_Byte.at_ fold_Byte.body (fold_Byte.snd  hp4)) ?_
      rintro _ _ ⟨rfl, rfl⟩
      obtain ⟨p5, hp5, h⟩ := leto h
      refine q_op (dst := some 18) rfl (fun _ ho => ok_buildSlice_s (xs := [(.tmp 17)]) el34 ho rfl rfl (by decide) (.cons (.tmp rfl) Evs.nil) rfl rfl hp5) ?_
      obtain ⟨p6, hp6, h⟩ := bindo h
      obtain ⟨p7, hp7, h⟩ := bindo h
      refine q_op (dst := some 19) rfl (fun _ ho => ok_append (s := y3) (s1 := (p5.1)) el34 ho rfl rfl ⟨_, tu34⟩ (.tmp rfl) (.tmp rfl) hp6 hp7) ?_
      refine q_op (dst := some 3) rfl (fun _ ho => ok_assign ho (.tmp rfl)) ?_
      refine hr_region_end ?_
      try simp only [HAct.put, List.set_cons_zero, List.set_cons_succ]
      refine hr_inBlock ?_
      refine q_region e20 rfl ?_
      refine q_op (dst := some 20) rfl (fun _ ho => ok_ibin ho (.tmp rfl) (.int _ _) rfl) ?_
      refine q_op (dst := some 10) rfl (fun _ ho => ok_move ho (.tmp rfl)) ?_
      refine hr_region_end ?_
      try simp only [HAct.put, List.set_cons_zero, List.set_cons_succ]
      try simp only [HAct.put, List.set_cons_zero, List.set_cons_succ]
      exact ih h
    · refine q_cond_f e12 (.tmp rfl) (decide_eq_false hc2) ?_
      refine q_exit e14 rfl ?_
      refine q_seq e21 ?_
      refine q_region e22 rfl ?_
      refine q_op (dst := some 21) rfl (fun _ ho => ok_move ho (.tmp rfl)) ?_
      obtain ⟨p8, hp8, h⟩ := bindo h
      refine q_op (dst := some 22) rfl (fun _ ho => ok_str_of_bytes (s := y3) ho tu34 tu5 tu9 (.tmp rfl) hp8) ?_
      refine q_op (dst := some 2) rfl (fun _ ho => ok_assign ho (.tmp rfl)) ?_
      refine hr_region_end ?_
      try simp only [HAct.put, List.set_cons_zero, List.set_cons_succ]
      cases h
      exact q_ret e23 at_.at_ rfl (res1 rfl rfl) ⟨rfl, rfl⟩
def f (k : Nat) (x0 : (List UInt8)) (S : HS) : Option (((List UInt8)) × HS) :=
  (Option.bind (HS.make S 0 (List.length x0 : Int) [(.int .u8 0)]) fun p1 =>
  L0 k k x0 (p1.1) (List.length x0 : Int) 0 (p1.2))
theorem snd {k : Nat} {x0 : (List UInt8)} {S : HS}  {p : ((List UInt8)) × HS} (h : f k x0 S = some p) : HCall Try.prog base W0 β0 10 [(.str x0)] S (fun v S1 => v = (.str p.1) ∧ S1 = p.2) := by
  unfold f at h
  refine HCall.of_run at_.at_ body ?_
  show HRun Try.prog base W0 β0 10 none [.code c0] ⟨[(.str x0), .tup [], .tup [], .tup [], .tup [], .tup [], .tup [], .tup [], .tup [], .tup [], .tup [], .tup [], .tup [], .tup [], .tup [], .tup [], .tup [], .tup [], .tup [], .tup [], .tup [], .tup [], .tup []], []⟩ S _
  refine q_seq e0 ?_
  refine q_region e1 rfl ?_
  refine q_op (dst := some 2) rfl (fun _ ho => ok_assign ho (.str _)) ?_
  refine hr_region_end ?_
  try simp only [HAct.put, List.set_cons_zero, List.set_cons_succ]
  refine q_seq e2 ?_
  refine q_region e3 rfl ?_
  refine q_op (dst := some 5) rfl (fun _ ho => ok_move ho (.tmp rfl)) ?_
  refine q_op (dst := some 6) rfl (fun _ ho => ok_len_str ho rfl tu9 (.tmp rfl)) ?_
  obtain ⟨p1, hp1, h⟩ := bindo h
  refine q_op (dst := some 7) rfl (fun _ ho => ok_make el34 ho (.int _ _) (.tmp rfl) hp1) ?_
  refine q_op (dst := some 3) rfl (fun _ ho => ok_assign ho (.tmp rfl)) ?_
  refine hr_region_end ?_
  try simp only [HAct.put, List.set_cons_zero, List.set_cons_succ]
  refine q_seq e4 ?_
  refine q_seq e5 ?_
  refine q_region e6 rfl ?_
  refine q_op (dst := some 8) rfl (fun _ ho => ok_move ho (.tmp rfl)) ?_
  refine q_op (dst := some 9) rfl (fun _ ho => ok_len_str ho rfl tu9 (.tmp rfl)) ?_
  refine q_op (dst := some 10) rfl (fun _ ho => ok_move ho (.int _ _)) ?_
  refine hr_region_end ?_
  try simp only [HAct.put, List.set_cons_zero, List.set_cons_succ]
  refine q_block e7 ?_
  refine q_loop e8 ?_
  try simp only [HAct.put, List.set_cons_zero, List.set_cons_succ]
  exact L0_snd  h
end
end fold_Text
namespace fold_Compare
abbrev id : Nat := 16
theorem at_ : FnAt Try.prog 16 Try.f16 := ⟨Try.func16, by kernel_rfl⟩
noncomputable def c0 : Code := (Try.f16.body).getD .skip
noncomputable def c1 : Code := match c0 with | .seq x _ => x | _ => .skip
noncomputable def c2 : Code := match c0 with | .seq _ x => x | _ => .skip
noncomputable def c3 : Code := match c2 with | .seq x _ => x | _ => .skip
noncomputable def c4 : Code := match c3 with | .seq x _ => x | _ => .skip
noncomputable def c5 : Code := match c3 with | .seq _ x => x | _ => .skip
noncomputable def c6 : Code := match c5 with | .block _ x => x | _ => .skip
noncomputable def c7 : Code := match c6 with | .loop x => x | _ => .skip
noncomputable def c8 : Code := match c7 with | .seq x _ => x | _ => .skip
noncomputable def c9 : Code := match c7 with | .seq _ x => x | _ => .skip
noncomputable def c10 : Code := match c9 with | .seq x _ => x | _ => .skip
noncomputable def c11 : Code := match c10 with | .cond _ x _ => x | _ => .skip
noncomputable def c12 : Code := match c10 with | .cond _ _ x => x | _ => .skip
noncomputable def c13 : Code := match c9 with | .seq _ x => x | _ => .skip
noncomputable def c14 : Code := match c13 with | .seq x _ => x | _ => .skip
noncomputable def c15 : Code := match c14 with | .block _ x => x | _ => .skip
noncomputable def c16 : Code := match c15 with | .seq x _ => x | _ => .skip
noncomputable def c17 : Code := match c15 with | .seq _ x => x | _ => .skip
noncomputable def c18 : Code := match c17 with | .seq x _ => x | _ => .skip
noncomputable def c19 : Code := match c17 with | .seq _ x => x | _ => .skip
noncomputable def c20 : Code := match c19 with | .seq x _ => x | _ => .skip
noncomputable def c21 : Code := match c20 with | .seq x _ => x | _ => .skip
noncomputable def c22 : Code := match c20 with | .seq _ x => x | _ => .skip
noncomputable def c23 : Code := match c22 with | .cond _ x _ => x | _ => .skip
noncomputable def c24 : Code := match c23 with | .seq x _ => x | _ => .skip
noncomputable def c25 : Code := match c23 with | .seq _ x => x | _ => .skip
noncomputable def c26 : Code := match c22 with | .cond _ _ x => x | _ => .skip
noncomputable def c27 : Code := match c19 with | .seq _ x => x | _ => .skip
noncomputable def c28 : Code := match c27 with | .seq x _ => x | _ => .skip
noncomputable def c29 : Code := match c27 with | .seq _ x => x | _ => .skip
noncomputable def c30 : Code := match c29 with | .cond _ x _ => x | _ => .skip
noncomputable def c31 : Code := match c30 with | .seq x _ => x | _ => .skip
noncomputable def c32 : Code := match c30 with | .seq _ x => x | _ => .skip
noncomputable def c33 : Code := match c29 with | .cond _ _ x => x | _ => .skip
noncomputable def c34 : Code := match c13 with | .seq _ x => x | _ => .skip
noncomputable def c35 : Code := match c2 with | .seq _ x => x | _ => .skip
noncomputable def c36 : Code := match c35 with | .seq x _ => x | _ => .skip
noncomputable def c37 : Code := match c36 with | .block _ x => x | _ => .skip
noncomputable def c38 : Code := match c37 with | .seq x _ => x | _ => .skip
noncomputable def c39 : Code := match c37 with | .seq _ x => x | _ => .skip
noncomputable def c40 : Code := match c39 with | .cond _ x _ => x | _ => .skip
noncomputable def c41 : Code := match c40 with | .seq x _ => x | _ => .skip
noncomputable def c42 : Code := match c40 with | .seq _ x => x | _ => .skip
noncomputable def c43 : Code := match c39 with | .cond _ _ x => x | _ => .skip
noncomputable def c44 : Code := match c43 with | .seq x _ => x | _ => .skip
noncomputable def c45 : Code := match c43 with | .seq _ x => x | _ => .skip
noncomputable def c46 : Code := match c45 with | .cond _ x _ => x | _ => .skip
noncomputable def c47 : Code := match c46 with | .seq x _ => x | _ => .skip
noncomputable def c48 : Code := match c46 with | .seq _ x => x | _ => .skip
noncomputable def c49 : Code := match c45 with | .cond _ _ x => x | _ => .skip
noncomputable def c50 : Code := match c35 with | .seq _ x => x | _ => .skip
noncomputable def c51 : Code := match c50 with | .seq x _ => x | _ => .skip
noncomputable def c52 : Code := match c50 with | .seq _ x => x | _ => .skip
theorem e0 : c0 = .seq c1 c2 := by kernel_rfl
noncomputable def r1 : Array Oper := match c1 with | .region _ x _ => x | _ => #[]
theorem e1 : c1 = .region 0 r1 false := by kernel_rfl
theorem e2 : c2 = .seq c3 c35 := by kernel_rfl
theorem e3 : c3 = .seq c4 c5 := by kernel_rfl
noncomputable def r4 : Array Oper := match c4 with | .region _ x _ => x | _ => #[]
theorem e4 : c4 = .region 1 r4 false := by kernel_rfl
theorem e5 : c5 = .block 0 c6 := by kernel_rfl
theorem e6 : c6 = .loop c7 := by kernel_rfl
theorem e7 : c7 = .seq c8 c9 := by kernel_rfl
noncomputable def r8 : Array Oper := match c8 with | .region _ x _ => x | _ => #[]
theorem e8 : c8 = .region 2 r8 false := by kernel_rfl
theorem e9 : c9 = .seq c10 c13 := by kernel_rfl
theorem e10 : c10 = .cond (.tmp 14) c11 c12 := by kernel_rfl
theorem e11 : c11 = .skip := by kernel_rfl
theorem e12 : c12 = .exit 0 := by kernel_rfl
theorem e13 : c13 = .seq c14 c34 := by kernel_rfl
theorem e14 : c14 = .block 1 c15 := by kernel_rfl
theorem e15 : c15 = .seq c16 c17 := by kernel_rfl
noncomputable def r16 : Array Oper := match c16 with | .region _ x _ => x | _ => #[]
theorem e16 : c16 = .region 3 r16 false := by kernel_rfl
theorem e17 : c17 = .seq c18 c19 := by kernel_rfl
noncomputable def r18 : Array Oper := match c18 with | .region _ x _ => x | _ => #[]
theorem e18 : c18 = .region 4 r18 true := by kernel_rfl
theorem e19 : c19 = .seq c20 c27 := by kernel_rfl
theorem e20 : c20 = .seq c21 c22 := by kernel_rfl
noncomputable def r21 : Array Oper := match c21 with | .region _ x _ => x | _ => #[]
theorem e21 : c21 = .region 5 r21 false := by kernel_rfl
theorem e22 : c22 = .cond (.tmp 26) c23 c26 := by kernel_rfl
theorem e23 : c23 = .seq c24 c25 := by kernel_rfl
noncomputable def r24 : Array Oper := match c24 with | .region _ x _ => x | _ => #[]
theorem e24 : c24 = .region 6 r24 false := by kernel_rfl
theorem e25 : c25 = .ret := by kernel_rfl
theorem e26 : c26 = .skip := by kernel_rfl
theorem e27 : c27 = .seq c28 c29 := by kernel_rfl
noncomputable def r28 : Array Oper := match c28 with | .region _ x _ => x | _ => #[]
theorem e28 : c28 = .region 7 r28 false := by kernel_rfl
theorem e29 : c29 = .cond (.tmp 29) c30 c33 := by kernel_rfl
theorem e30 : c30 = .seq c31 c32 := by kernel_rfl
noncomputable def r31 : Array Oper := match c31 with | .region _ x _ => x | _ => #[]
theorem e31 : c31 = .region 8 r31 false := by kernel_rfl
theorem e32 : c32 = .ret := by kernel_rfl
theorem e33 : c33 = .skip := by kernel_rfl
noncomputable def r34 : Array Oper := match c34 with | .region _ x _ => x | _ => #[]
theorem e34 : c34 = .region 9 r34 false := by kernel_rfl
theorem e35 : c35 = .seq c36 c50 := by kernel_rfl
theorem e36 : c36 = .block 2 c37 := by kernel_rfl
theorem e37 : c37 = .seq c38 c39 := by kernel_rfl
noncomputable def r38 : Array Oper := match c38 with | .region _ x _ => x | _ => #[]
theorem e38 : c38 = .region 10 r38 false := by kernel_rfl
theorem e39 : c39 = .cond (.tmp 31) c40 c43 := by kernel_rfl
theorem e40 : c40 = .seq c41 c42 := by kernel_rfl
noncomputable def r41 : Array Oper := match c41 with | .region _ x _ => x | _ => #[]
theorem e41 : c41 = .region 11 r41 false := by kernel_rfl
theorem e42 : c42 = .ret := by kernel_rfl
theorem e43 : c43 = .seq c44 c45 := by kernel_rfl
noncomputable def r44 : Array Oper := match c44 with | .region _ x _ => x | _ => #[]
theorem e44 : c44 = .region 12 r44 false := by kernel_rfl
theorem e45 : c45 = .cond (.tmp 37) c46 c49 := by kernel_rfl
theorem e46 : c46 = .seq c47 c48 := by kernel_rfl
noncomputable def r47 : Array Oper := match c47 with | .region _ x _ => x | _ => #[]
theorem e47 : c47 = .region 13 r47 false := by kernel_rfl
theorem e48 : c48 = .ret := by kernel_rfl
theorem e49 : c49 = .skip := by kernel_rfl
theorem e50 : c50 = .seq c51 c52 := by kernel_rfl
noncomputable def r51 : Array Oper := match c51 with | .region _ x _ => x | _ => #[]
theorem e51 : c51 = .region 14 r51 false := by kernel_rfl
theorem e52 : c52 = .ret := by kernel_rfl
theorem body : Try.f16.body = some c0 := by kernel_rfl
section
variable {base : Nat} {W0 : World} {β0 : Bt}
def L0 (k : Nat) : Nat → (List UInt8) → (List UInt8) → Int → Int → Option (Int)
  | 0, _, _, _, _ => none
  | n + 1, y0, y1, y12, y13 =>
    (if y13 < y12 then
    (Option.bind (sat y0 y13) fun p2 =>
    (Option.bind (fold_Byte.f (UInt8.toNat p2 : Int)) fun p3 =>
    (Option.bind (sat y1 y13) fun p4 =>
    (Option.bind (fold_Byte.f (UInt8.toNat p4 : Int)) fun p5 =>
    (if p3 < p5 then
    some (-1) else
    (if p3 > p5 then
    some 1 else
    (L0 k n) y0 y1 y12 (w64 (y13 + 1)))))))) else
    (if (List.length y0 : Int) < (List.length y1 : Int) then
    some (-1) else
    (if (List.length y0 : Int) > (List.length y1 : Int) then
    some 1 else
    some 0)))
theorem L0_snd {k : Nat}  : ∀ {n : Nat} ⦃y0 : (List UInt8)⦄ ⦃y1 : (List UInt8)⦄ ⦃y12 : Int⦄ ⦃y13 : Int⦄ ⦃S : HS⦄ ⦃p : Int⦄ ⦃g2 g3 g4 g5 g6 g7 g8 g9 g10 g11 g14 g15 g16 g17 g18 g19 g20 g21 g22 g23 g24 g25 g26 g27 g28 g29 g30 g31 g32 g33 g34 g35 g36 g37 g38 g39 g40 g41 g42 : HV⦄, L0 k n y0 y1 y12 y13 = some p → HRun Try.prog base W0 β0 16 none [.inLoop c7, .inBlock 0, .code c35] ⟨[(.str y0), (.str y1), g2, g3, g4, g5, g6, g7, g8, g9, g10, g11, (.int .i64 y12), (.int .i64 y13), g14, g15, g16, g17, g18, g19, g20, g21, g22, g23, g24, g25, g26, g27, g28, g29, g30, g31, g32, g33, g34, g35, g36, g37, g38, g39, g40, g41, g42], []⟩ S (fun v S1 => v = (.int .i64 p) ∧ S1 = S) := by
  intro n
  induction n with
  | zero => intro _ _ _ _ _ _ _ _ _ _ _ _ _ _ _ _ _ _ _ _ _ _ _ _ _ _ _ _ _ _ _ _ _ _ _ _ _ _ _ _ _ _ _ _ _ h; cases h
  | succ n ih =>
    intro y0 y1 y12 y13 S p g2 g3 g4 g5 g6 g7 g8 g9 g10 g11 g14 g15 g16 g17 g18 g19 g20 g21 g22 g23 g24 g25 g26 g27 g28 g29 g30 g31 g32 g33 g34 g35 g36 g37 g38 g39 g40 g41 g42 h
    simp only [L0] at h
    refine hr_inLoop ?_
    refine q_seq e7 ?_
    refine q_region e8 rfl ?_
    refine q_op (dst := some 14) rfl (fun _ ho => ok_ibin ho (.tmp rfl) (.tmp rfl) rfl) ?_
    refine hr_region_end ?_
    try simp only [HAct.put, List.set_cons_zero, List.set_cons_succ]
    refine q_seq e9 ?_
    rcases ifc h with ⟨hc1, h⟩ | ⟨hc1, h⟩
    · refine q_cond_t e10 (.tmp rfl) (decide_eq_true hc1) ?_
      refine q_skipc e11 ?_
      refine q_seq e13 ?_
      refine q_block e14 ?_
      refine q_seq e15 ?_
      refine q_region e16 rfl ?_
      refine q_op (dst := some 15) rfl (fun _ ho => ok_move ho (.tmp rfl)) ?_
      refine q_op (dst := some 5) rfl (fun _ ho => ok_assign ho (.tmp rfl)) ?_
      refine hr_region_end ?_
      try simp only [HAct.put, List.set_cons_zero, List.set_cons_succ]
      refine q_seq e17 ?_
      refine x_start (cls := [0, 0, 0, 0, 0, 0, 0, 0, 0, 0]) (rk := [0, 1, 2, 3, 4, 5, 6, 7, 8, 9]) e18 (by kernel_rfl) ?_
      refine x_go (f_op (dst := some 16) (ts := [0]) rfl (by intro _ _ h; cases h) (by kernel_rfl) (fun _ _ ho => ok_move ho (.tmp rfl))) rfl ?_
      refine x_go (f_op (dst := some 17) (ts := [5]) rfl (by intro _ _ h; cases h) (by kernel_rfl) (fun _ _ ho => ok_move ho (.tmp rfl))) rfl ?_
      obtain ⟨p2, hp2, h⟩ := bindo h
      refine x_go (f_op (dst := some 18) (ts := [16, 17]) rfl (by intro _ _ h; cases h) (by kernel_rfl) (fun _ _ ho => ok_index_s ho tu9 (.tmp rfl) (.tmp rfl) hp2)) rfl ?_
      obtain ⟨p3, hp3, h⟩ := bindo h
      refine x_go (f_call (dst := some 19) (ts := [18]) rfl (by kernel_rfl) (.func _) (.cons (.tmp rfl) Evs.nil) (fun _ => (HInv.static fold_Byte.at_ fold_Byte.body (fold_Byte.snd  hp3)))) rfl ?_
      try simp only [HAct.put, List.set_cons_zero, List.set_cons_succ]
      refine x_go (f_op (dst := some 20) (ts := [1]) rfl (by intro _ _ h; cases h) (by kernel_rfl) (fun _ _ ho => ok_move ho (.tmp rfl))) rfl ?_
      refine x_go (f_op (dst := some 21) (ts := [5]) rfl (by intro _ _ h; cases h) (by kernel_rfl) (fun _ _ ho => ok_move ho (.tmp rfl))) rfl ?_
      obtain ⟨p4, hp4, h⟩ := bindo h
      refine x_go (f_op (dst := some 22) (ts := [20, 21]) rfl (by intro _ _ h; cases h) (by kernel_rfl) (fun _ _ ho => ok_index_s ho tu9 (.tmp rfl) (.tmp rfl) hp4)) rfl ?_
      obtain ⟨p5, hp5, h⟩ := bindo h
      refine x_go (f_call (dst := some 23) (ts := [22]) rfl (by kernel_rfl) (.func _) (.cons (.tmp rfl) Evs.nil) (fun _ => (HInv.static fold_Byte.at_ fold_Byte.body (fold_Byte.snd  hp5)))) rfl ?_
      try simp only [HAct.put, List.set_cons_zero, List.set_cons_succ]
      refine x_go (f_op (dst := some 6) (ts := [19]) rfl (by intro _ _ h; cases h) (by kernel_rfl) (fun _ _ ho => ok_assign ho (.tmp rfl))) rfl ?_
      refine x_go (f_op (dst := some 7) (ts := [23]) rfl (by intro _ _ h; cases h) (by kernel_rfl) (fun _ _ ho => ok_assign ho (.tmp rfl))) rfl ?_
      refine x_rest rfl ?_
      refine hr_region_end ?_
      try simp only [HAct.put, List.set_cons_zero, List.set_cons_succ]
      refine q_seq e19 ?_
      refine q_seq e20 ?_
      refine q_region e21 rfl ?_
      refine q_op (dst := some 24) rfl (fun _ ho => ok_move ho (.tmp rfl)) ?_
      refine q_op (dst := some 25) rfl (fun _ ho => ok_move ho (.tmp rfl)) ?_
      refine q_op (dst := some 26) rfl (fun _ ho => ok_ibin ho (.tmp rfl) (.tmp rfl) rfl) ?_
      refine hr_region_end ?_
      try simp only [HAct.put, List.set_cons_zero, List.set_cons_succ]
      rcases ifc h with ⟨hc6, h⟩ | ⟨hc6, h⟩
      · refine q_cond_t e22 (.tmp rfl) (decide_eq_true hc6) ?_
        refine q_seq e23 ?_
        refine q_region e24 rfl ?_
        refine q_op (dst := some 4) rfl (fun _ ho => ok_assign ho (.int _ _)) ?_
        refine hr_region_end ?_
        try simp only [HAct.put, List.set_cons_zero, List.set_cons_succ]
        cases h
        exact q_ret e25 at_.at_ rfl (res1 rfl rfl) ⟨rfl, rfl⟩
      · refine q_cond_f e22 (.tmp rfl) (decide_eq_false hc6) ?_
        refine q_skipc e26 ?_
        refine q_seq e27 ?_
        refine q_region e28 rfl ?_
        refine q_op (dst := some 27) rfl (fun _ ho => ok_move ho (.tmp rfl)) ?_
        refine q_op (dst := some 28) rfl (fun _ ho => ok_move ho (.tmp rfl)) ?_
        refine q_op (dst := some 29) rfl (fun _ ho => ok_ibin ho (.tmp rfl) (.tmp rfl) rfl) ?_
        refine hr_region_end ?_
        try simp only [HAct.put, List.set_cons_zero, List.set_cons_succ]
        rcases ifc h with ⟨hc7, h⟩ | ⟨hc7, h⟩
        · refine q_cond_t e29 (.tmp rfl) (decide_eq_true hc7) ?_
          refine q_seq e30 ?_
          refine q_region e31 rfl ?_
          refine q_op (dst := some 4) rfl (fun _ ho => ok_assign ho (.int _ _)) ?_
          refine hr_region_end ?_
          try simp only [HAct.put, List.set_cons_zero, List.set_cons_succ]
          cases h
          exact q_ret e32 at_.at_ rfl (res1 rfl rfl) ⟨rfl, rfl⟩
        · refine q_cond_f e29 (.tmp rfl) (decide_eq_false hc7) ?_
          refine q_skipc e33 ?_
          refine hr_inBlock ?_
          refine q_region e34 rfl ?_
          refine q_op (dst := some 30) rfl (fun _ ho => ok_ibin ho (.tmp rfl) (.int _ _) rfl) ?_
          refine q_op (dst := some 13) rfl (fun _ ho => ok_move ho (.tmp rfl)) ?_
          refine hr_region_end ?_
          try simp only [HAct.put, List.set_cons_zero, List.set_cons_succ]
          try simp only [HAct.put, List.set_cons_zero, List.set_cons_succ]
          exact ih h
    · refine q_cond_f e10 (.tmp rfl) (decide_eq_false hc1) ?_
      refine q_exit e12 rfl ?_
      refine q_seq e35 ?_
      refine q_block e36 ?_
      refine q_seq e37 ?_
      refine q_region e38 rfl ?_
      refine q_op (dst := some 32) rfl (fun _ ho => ok_move ho (.tmp rfl)) ?_
      refine q_op (dst := some 33) rfl (fun _ ho => ok_len_str ho rfl tu9 (.tmp rfl)) ?_
      refine q_op (dst := some 34) rfl (fun _ ho => ok_move ho (.tmp rfl)) ?_
      refine q_op (dst := some 35) rfl (fun _ ho => ok_len_str ho rfl tu9 (.tmp rfl)) ?_
      try simp only [HAct.put, List.set_cons_zero, List.set_cons_succ]
      refine q_op (dst := some 36) rfl (fun _ ho => ok_ibin ho (.tmp rfl) (.tmp rfl) rfl) ?_
      refine q_op (dst := some 31) rfl (fun _ ho => ok_assign ho (.tmp rfl)) ?_
      refine hr_region_end ?_
      try simp only [HAct.put, List.set_cons_zero, List.set_cons_succ]
      rcases ifc h with ⟨hc8, h⟩ | ⟨hc8, h⟩
      · refine q_cond_t e39 (.tmp rfl) (decide_eq_true hc8) ?_
        refine q_seq e40 ?_
        refine q_region e41 rfl ?_
        refine q_op (dst := some 4) rfl (fun _ ho => ok_assign ho (.int _ _)) ?_
        refine hr_region_end ?_
        try simp only [HAct.put, List.set_cons_zero, List.set_cons_succ]
        cases h
        exact q_ret e42 at_.at_ rfl (res1 rfl rfl) ⟨rfl, rfl⟩
      · refine q_cond_f e39 (.tmp rfl) (decide_eq_false hc8) ?_
        refine q_seq e43 ?_
        refine q_region e44 rfl ?_
        refine q_op (dst := some 38) rfl (fun _ ho => ok_move ho (.tmp rfl)) ?_
        refine q_op (dst := some 39) rfl (fun _ ho => ok_len_str ho rfl tu9 (.tmp rfl)) ?_
        refine q_op (dst := some 40) rfl (fun _ ho => ok_move ho (.tmp rfl)) ?_
        refine q_op (dst := some 41) rfl (fun _ ho => ok_len_str ho rfl tu9 (.tmp rfl)) ?_
        try simp only [HAct.put, List.set_cons_zero, List.set_cons_succ]
        refine q_op (dst := some 42) rfl (fun _ ho => ok_ibin ho (.tmp rfl) (.tmp rfl) rfl) ?_
        refine q_op (dst := some 37) rfl (fun _ ho => ok_assign ho (.tmp rfl)) ?_
        refine hr_region_end ?_
        try simp only [HAct.put, List.set_cons_zero, List.set_cons_succ]
        rcases ifc h with ⟨hc9, h⟩ | ⟨hc9, h⟩
        · refine q_cond_t e45 (.tmp rfl) (decide_eq_true hc9) ?_
          refine q_seq e46 ?_
          refine q_region e47 rfl ?_
          refine q_op (dst := some 4) rfl (fun _ ho => ok_assign ho (.int _ _)) ?_
          refine hr_region_end ?_
          try simp only [HAct.put, List.set_cons_zero, List.set_cons_succ]
          cases h
          exact q_ret e48 at_.at_ rfl (res1 rfl rfl) ⟨rfl, rfl⟩
        · refine q_cond_f e45 (.tmp rfl) (decide_eq_false hc9) ?_
          refine q_skipc e49 ?_
          refine hr_inBlock ?_
          refine q_seq e50 ?_
          refine q_region e51 rfl ?_
          refine q_op (dst := some 4) rfl (fun _ ho => ok_assign ho (.int _ _)) ?_
          refine hr_region_end ?_
          try simp only [HAct.put, List.set_cons_zero, List.set_cons_succ]
          cases h
          exact q_ret e52 at_.at_ rfl (res1 rfl rfl) ⟨rfl, rfl⟩
def f (k : Nat) (x0 : (List UInt8)) (x1 : (List UInt8)) : Option (Int) :=
  L0 k k x0 x1 (mn (List.length x0 : Int) (List.length x1 : Int)) 0
theorem snd {k : Nat} {x0 : (List UInt8)} {x1 : (List UInt8)} {S : HS}  {p : Int} (h : f k x0 x1 = some p) : HCall Try.prog base W0 β0 16 [(.str x0), (.str x1)] S (fun v S1 => v = (.int .i64 p) ∧ S1 = S) := by
  unfold f at h
  refine HCall.of_run at_.at_ body ?_
  show HRun Try.prog base W0 β0 16 none [.code c0] ⟨[(.str x0), (.str x1), .tup [], .tup [], .tup [], .tup [], .tup [], .tup [], .tup [], .tup [], .tup [], .tup [], .tup [], .tup [], .tup [], .tup [], .tup [], .tup [], .tup [], .tup [], .tup [], .tup [], .tup [], .tup [], .tup [], .tup [], .tup [], .tup [], .tup [], .tup [], .tup [], .tup [], .tup [], .tup [], .tup [], .tup [], .tup [], .tup [], .tup [], .tup [], .tup [], .tup [], .tup []], []⟩ S _
  refine q_seq e0 ?_
  refine q_region e1 rfl ?_
  refine q_op (dst := some 4) rfl (fun _ ho => ok_assign ho (.int _ _)) ?_
  refine hr_region_end ?_
  try simp only [HAct.put, List.set_cons_zero, List.set_cons_succ]
  refine q_seq e2 ?_
  refine q_seq e3 ?_
  refine q_region e4 rfl ?_
  refine q_op (dst := some 8) rfl (fun _ ho => ok_move ho (.tmp rfl)) ?_
  refine q_op (dst := some 9) rfl (fun _ ho => ok_len_str ho rfl tu9 (.tmp rfl)) ?_
  refine q_op (dst := some 10) rfl (fun _ ho => ok_move ho (.tmp rfl)) ?_
  refine q_op (dst := some 11) rfl (fun _ ho => ok_len_str ho rfl tu9 (.tmp rfl)) ?_
  try simp only [HAct.put, List.set_cons_zero, List.set_cons_succ]
  refine q_op (dst := some 12) rfl (fun _ ho => ok_min ho (.tmp rfl) (.tmp rfl)) ?_
  refine q_op (dst := some 13) rfl (fun _ ho => ok_move ho (.int _ _)) ?_
  refine hr_region_end ?_
  try simp only [HAct.put, List.set_cons_zero, List.set_cons_succ]
  refine q_block e5 ?_
  refine q_loop e6 ?_
  try simp only [HAct.put, List.set_cons_zero, List.set_cons_succ]
  exact L0_snd  h
end
end fold_Compare
namespace fold_Same
abbrev id : Nat := 12
theorem at_ : FnAt Try.prog 12 Try.f12 := ⟨Try.func12, by kernel_rfl⟩
noncomputable def c0 : Code := (Try.f12.body).getD .skip
noncomputable def c1 : Code := match c0 with | .seq x _ => x | _ => .skip
noncomputable def c2 : Code := match c0 with | .seq _ x => x | _ => .skip
noncomputable def c3 : Code := match c2 with | .seq x _ => x | _ => .skip
noncomputable def c4 : Code := match c2 with | .seq _ x => x | _ => .skip
theorem e0 : c0 = .seq c1 c2 := by kernel_rfl
noncomputable def r1 : Array Oper := match c1 with | .region _ x _ => x | _ => #[]
theorem e1 : c1 = .region 0 r1 false := by kernel_rfl
theorem e2 : c2 = .seq c3 c4 := by kernel_rfl
noncomputable def r3 : Array Oper := match c3 with | .region _ x _ => x | _ => #[]
theorem e3 : c3 = .region 1 r3 false := by kernel_rfl
theorem e4 : c4 = .ret := by kernel_rfl
theorem body : Try.f12.body = some c0 := by kernel_rfl
section
variable {base : Nat} {W0 : World} {β0 : Bt}
def J0 (k : Nat) (y15 : Bool) : Option (Bool) :=
  some y15
theorem J0_snd {k : Nat}  {y15 : Bool} {S : HS} {p : Bool} {g0 g1 g2 g3 g4 g5 g6 g7 g8 g9 g10 g11 g12 g13 g14 : HV} (h : J0 k y15 = some p) : HRun Try.prog base W0 β0 12 none [.inRegion r3 [11], .code c4] ⟨[g0, g1, g2, g3, g4, g5, g6, g7, g8, g9, g10, g11, g12, g13, g14, (.bool y15)], []⟩ S (fun v S1 => v = (.bool p) ∧ S1 = S) := by
  unfold J0 at h
  refine q_op (dst := some 4) rfl (fun _ ho => ok_assign ho (.tmp rfl)) ?_
  refine hr_region_end ?_
  try simp only [HAct.put, List.set_cons_zero, List.set_cons_succ]
  cases h
  exact q_ret e4 at_.at_ rfl (res1 rfl rfl) ⟨rfl, rfl⟩
def f (k : Nat) (x0 : (List UInt8)) (x1 : (List UInt8)) : Option (Bool) :=
  (if (List.length x0 : Int) = (List.length x1 : Int) then
  (Option.bind (fold_Compare.f k x0 x1) fun p2 =>
  J0 k (decide (p2 = 0))) else
  J0 k false)
theorem snd {k : Nat} {x0 : (List UInt8)} {x1 : (List UInt8)} {S : HS}  {p : Bool} (h : f k x0 x1 = some p) : HCall Try.prog base W0 β0 12 [(.str x0), (.str x1)] S (fun v S1 => v = (.bool p) ∧ S1 = S) := by
  unfold f at h
  refine HCall.of_run at_.at_ body ?_
  show HRun Try.prog base W0 β0 12 none [.code c0] ⟨[(.str x0), (.str x1), .tup [], .tup [], .tup [], .tup [], .tup [], .tup [], .tup [], .tup [], .tup [], .tup [], .tup [], .tup [], .tup [], .tup []], []⟩ S _
  refine q_seq e0 ?_
  refine q_region e1 rfl ?_
  refine q_op (dst := some 4) rfl (fun _ ho => ok_assign ho (.bool _)) ?_
  refine hr_region_end ?_
  try simp only [HAct.put, List.set_cons_zero, List.set_cons_succ]
  refine q_seq e2 ?_
  refine q_region e3 rfl ?_
  refine q_op (dst := some 5) rfl (fun _ ho => ok_move ho (.tmp rfl)) ?_
  refine q_op (dst := some 6) rfl (fun _ ho => ok_len_str ho rfl tu9 (.tmp rfl)) ?_
  refine q_op (dst := some 7) rfl (fun _ ho => ok_move ho (.tmp rfl)) ?_
  refine q_op (dst := some 8) rfl (fun _ ho => ok_len_str ho rfl tu9 (.tmp rfl)) ?_
  try simp only [HAct.put, List.set_cons_zero, List.set_cons_succ]
  refine q_op (dst := some 9) rfl (fun _ ho => ok_ibin ho (.tmp rfl) (.tmp rfl) rfl) ?_
  refine q_op (dst := some 10) rfl (fun _ ho => ok_move ho (.tmp rfl)) ?_
  rcases ifc h with ⟨hc1, h⟩ | ⟨hc1, h⟩
  · refine q_op_g (t := 10) (dst := some 11) rfl rfl rfl (decide_eq_true hc1) (fun _ ho => ok_move ho (.tmp rfl)) ?_
    refine q_op_g (t := 10) (dst := some 12) rfl rfl rfl (decide_eq_true hc1) (fun _ ho => ok_move ho (.tmp rfl)) ?_
    try simp only [HAct.put, List.set_cons_zero, List.set_cons_succ]
    obtain ⟨p2, hp2, h⟩ := bindo h
    refine q_call_g (t := 10) (dst := some 13) rfl rfl rfl (decide_eq_true hc1) (.func _) (.cons (.tmp rfl) (.cons (.tmp rfl) Evs.nil)) (HInv.static fold_Compare.at_ fold_Compare.body (fold_Compare.snd  hp2)) ?_
    rintro _ _ ⟨rfl, rfl⟩
    refine q_op_g (t := 10) (dst := some 14) rfl rfl rfl (decide_eq_true hc1) (fun _ ho => ok_ibin ho (.tmp rfl) (.int _ _) rfl) ?_
    refine q_op (dst := some 15) rfl (fun _ ho => ok_pick_tt ho (.tmp rfl) (decide_eq_true hc1) (.tmp rfl)) ?_
    try simp only [HAct.put, List.set_cons_zero, List.set_cons_succ]
    exact J0_snd  h
  · refine q_skip (dst := some 11) (t := 10) rfl rfl rfl (decide_eq_false hc1) ?_
    refine q_skip (dst := some 12) (t := 10) rfl rfl rfl (decide_eq_false hc1) ?_
    try simp only [HAct.put, List.set_cons_zero, List.set_cons_succ]
    refine q_skip (dst := some 13) (t := 10) rfl rfl rfl (decide_eq_false hc1) ?_
    refine q_skip (dst := some 14) (t := 10) rfl rfl rfl (decide_eq_false hc1) ?_
    refine q_op (dst := some 15) rfl (fun _ ho => ok_pick_ff ho (.tmp rfl) (decide_eq_false hc1) (.bool _)) ?_
    try simp only [HAct.put, List.set_cons_zero, List.set_cons_succ]
    exact J0_snd  h
end
end fold_Same
namespace rollcalllaw01_awake
abbrev id : Nat := 9
theorem at_ : FnAt Try.prog 9 Try.f9 := ⟨Try.func9, by kernel_rfl⟩
noncomputable def c0 : Code := (Try.f9.body).getD .skip
noncomputable def c1 : Code := match c0 with | .seq x _ => x | _ => .skip
noncomputable def c2 : Code := match c0 with | .seq _ x => x | _ => .skip
noncomputable def c3 : Code := match c2 with | .seq x _ => x | _ => .skip
noncomputable def c4 : Code := match c2 with | .seq _ x => x | _ => .skip
theorem e0 : c0 = .seq c1 c2 := by kernel_rfl
noncomputable def r1 : Array Oper := match c1 with | .region _ x _ => x | _ => #[]
theorem e1 : c1 = .region 0 r1 false := by kernel_rfl
theorem e2 : c2 = .seq c3 c4 := by kernel_rfl
noncomputable def r3 : Array Oper := match c3 with | .region _ x _ => x | _ => #[]
theorem e3 : c3 = .region 1 r3 false := by kernel_rfl
theorem e4 : c4 = .ret := by kernel_rfl
theorem body : Try.f9.body = some c0 := by kernel_rfl
section
variable {base : Nat} {W0 : World} {β0 : Bt}
def J1 (k : Nat) (y9 : Bool) (S : HS) : Option ((Bool) × HS) :=
  some (y9, S)
theorem J1_snd {k : Nat}  {y9 : Bool} {S : HS} {p : (Bool) × HS} {g0 g1 g2 g3 g4 g5 g6 g7 g8 : HV} (h : J1 k y9 S = some p) : HRun Try.prog base W0 β0 9 none [.inRegion r3 [9], .code c4] ⟨[g0, g1, g2, g3, g4, g5, g6, g7, g8, (.bool y9)], []⟩ S (fun v S1 => v = (.bool p.1) ∧ S1 = p.2) := by
  unfold J1 at h
  refine q_op (dst := some 0) rfl (fun _ ho => ok_assign ho (.tmp rfl)) ?_
  refine hr_region_end ?_
  try simp only [HAct.put, List.set_cons_zero, List.set_cons_succ]
  cases h
  exact q_ret e4 at_.at_ rfl (res1 rfl rfl) ⟨rfl, rfl⟩
def J0 (k : Nat) (y5 : Bool) (S : HS) : Option ((Bool) × HS) :=
  (if y5 = true then
  (Option.bind (fold_Same.f k ([97] : List UInt8) ([98] : List UInt8)) fun p5 =>
  J1 k (!p5) S) else
  J1 k false S)
theorem J0_snd {k : Nat}  {y5 : Bool} {S : HS} {p : (Bool) × HS} {g0 g1 g2 g3 g4 g6 g7 g8 g9 : HV} (h : J0 k y5 S = some p) : HRun Try.prog base W0 β0 9 none [.inRegion r3 [5, 6, 7, 8, 9], .code c4] ⟨[g0, g1, g2, g3, g4, (.bool y5), g6, g7, g8, g9], []⟩ S (fun v S1 => v = (.bool p.1) ∧ S1 = p.2) := by
  unfold J0 at h
  refine q_op (dst := some 6) rfl (fun _ ho => ok_move ho (.tmp rfl)) ?_
  rcases ifc h with ⟨hc4, h⟩ | ⟨hc4, h⟩
  · obtain ⟨p5, hp5, h⟩ := bindo h
    refine q_call_g (t := 6) (dst := some 7) rfl rfl rfl hc4 (.func _) (.cons (.str _) (.cons (.str _) Evs.nil)) (HInv.static fold_Same.at_ fold_Same.body (fold_Same.snd  hp5)) ?_
    rintro _ _ ⟨rfl, rfl⟩
    refine q_op_g (t := 6) (dst := some 8) rfl rfl rfl hc4 (fun _ ho => ok_not ho (.tmp rfl)) ?_
    try simp only [HAct.put, List.set_cons_zero, List.set_cons_succ]
    refine q_op (dst := some 9) rfl (fun _ ho => ok_pick_tt ho (.tmp rfl) hc4 (.tmp rfl)) ?_
    try simp only [HAct.put, List.set_cons_zero, List.set_cons_succ]
    exact J1_snd  h
  · refine q_skip (dst := some 7) (t := 6) rfl rfl rfl (bfalse hc4) ?_
    refine q_skip (dst := some 8) (t := 6) rfl rfl rfl (bfalse hc4) ?_
    try simp only [HAct.put, List.set_cons_zero, List.set_cons_succ]
    refine q_op (dst := some 9) rfl (fun _ ho => ok_pick_ff ho (.tmp rfl) (bfalse hc4) (.bool _)) ?_
    try simp only [HAct.put, List.set_cons_zero, List.set_cons_succ]
    exact J1_snd  h
def f (k : Nat) (S : HS) : Option ((Bool) × HS) :=
  (Option.bind (fold_Text.f k ([65, 91, 98, 93, 126] : List UInt8) S) fun p1 =>
  (if p1.1 = ([97, 123, 98, 125, 94] : List UInt8) then
  (Option.bind (fold_Same.f k ([78, 105, 99, 107, 91] : List UInt8) ([110, 73, 67, 75, 123] : List UInt8)) fun p3 =>
  J0 k p3 p1.2) else
  J0 k false p1.2))
theorem snd {k : Nat} {S : HS}  {p : (Bool) × HS} (h : f k S = some p) : HCall Try.prog base W0 β0 9 [] S (fun v S1 => v = (.bool p.1) ∧ S1 = p.2) := by
  unfold f at h
  refine HCall.of_run at_.at_ body ?_
  show HRun Try.prog base W0 β0 9 none [.code c0] ⟨[.tup [], .tup [], .tup [], .tup [], .tup [], .tup [], .tup [], .tup [], .tup [], .tup []], []⟩ S _
  refine q_seq e0 ?_
  refine q_region e1 rfl ?_
  refine q_op (dst := some 0) rfl (fun _ ho => ok_assign ho (.bool _)) ?_
  refine hr_region_end ?_
  try simp only [HAct.put, List.set_cons_zero, List.set_cons_succ]
  refine q_seq e2 ?_
  refine q_region e3 rfl ?_
  obtain ⟨p1, hp1, h⟩ := bindo h
  refine q_call (dst := some 1) rfl (.func _) (.cons (.str _) Evs.nil) (HInv.static fold_Text.at_ fold_Text.body (fold_Text.snd  hp1)) ?_
  rintro _ _ ⟨rfl, rfl⟩
  refine q_op (dst := some 2) rfl (fun _ ho => ok_sbin ho (.tmp rfl) (.str _) rfl) ?_
  refine q_op (dst := some 3) rfl (fun _ ho => ok_move ho (.tmp rfl)) ?_
  rcases ifc h with ⟨hc2, h⟩ | ⟨hc2, h⟩
  · obtain ⟨p3, hp3, h⟩ := bindo h
    refine q_call_g (t := 3) (dst := some 4) rfl rfl rfl (decide_eq_true hc2) (.func _) (.cons (.str _) (.cons (.str _) Evs.nil)) (HInv.static fold_Same.at_ fold_Same.body (fold_Same.snd  hp3)) ?_
    rintro _ _ ⟨rfl, rfl⟩
    try simp only [HAct.put, List.set_cons_zero, List.set_cons_succ]
    refine q_op (dst := some 5) rfl (fun _ ho => ok_pick_tt ho (.tmp rfl) (decide_eq_true hc2) (.tmp rfl)) ?_
    try simp only [HAct.put, List.set_cons_zero, List.set_cons_succ]
    exact J0_snd  h
  · refine q_skip (dst := some 4) (t := 3) rfl rfl rfl (decide_eq_false hc2) ?_
    try simp only [HAct.put, List.set_cons_zero, List.set_cons_succ]
    refine q_op (dst := some 5) rfl (fun _ ho => ok_pick_ff ho (.tmp rfl) (decide_eq_false hc2) (.bool _)) ?_
    try simp only [HAct.put, List.set_cons_zero, List.set_cons_succ]
    exact J0_snd  h
end
end rollcalllaw01_awake
namespace rollcallref01_Byte
abbrev id : Nat := 14
theorem at_ : FnAt Try.prog 14 Try.f14 := ⟨Try.func14, by kernel_rfl⟩
noncomputable def c0 : Code := (Try.f14.body).getD .skip
noncomputable def c1 : Code := match c0 with | .seq x _ => x | _ => .skip
noncomputable def c2 : Code := match c0 with | .seq _ x => x | _ => .skip
noncomputable def c3 : Code := match c2 with | .seq x _ => x | _ => .skip
noncomputable def c4 : Code := match c2 with | .seq _ x => x | _ => .skip
noncomputable def c5 : Code := match c4 with | .seq x _ => x | _ => .skip
noncomputable def c6 : Code := match c4 with | .seq _ x => x | _ => .skip
noncomputable def c7 : Code := match c6 with | .seq x _ => x | _ => .skip
noncomputable def c8 : Code := match c7 with | .seq x _ => x | _ => .skip
noncomputable def c9 : Code := match c7 with | .seq _ x => x | _ => .skip
noncomputable def c10 : Code := match c9 with | .block _ x => x | _ => .skip
noncomputable def c11 : Code := match c10 with | .loop x => x | _ => .skip
noncomputable def c12 : Code := match c11 with | .seq x _ => x | _ => .skip
noncomputable def c13 : Code := match c12 with | .seq x _ => x | _ => .skip
noncomputable def c14 : Code := match c12 with | .seq _ x => x | _ => .skip
noncomputable def c15 : Code := match c14 with | .cond _ x _ => x | _ => .skip
noncomputable def c16 : Code := match c14 with | .cond _ _ x => x | _ => .skip
noncomputable def c17 : Code := match c11 with | .seq _ x => x | _ => .skip
noncomputable def c18 : Code := match c17 with | .seq x _ => x | _ => .skip
noncomputable def c19 : Code := match c18 with | .block _ x => x | _ => .skip
noncomputable def c20 : Code := match c19 with | .seq x _ => x | _ => .skip
noncomputable def c21 : Code := match c19 with | .seq _ x => x | _ => .skip
noncomputable def c22 : Code := match c21 with | .cond _ x _ => x | _ => .skip
noncomputable def c23 : Code := match c22 with | .seq x _ => x | _ => .skip
noncomputable def c24 : Code := match c22 with | .seq _ x => x | _ => .skip
noncomputable def c25 : Code := match c21 with | .cond _ _ x => x | _ => .skip
noncomputable def c26 : Code := match c17 with | .seq _ x => x | _ => .skip
noncomputable def c27 : Code := match c6 with | .seq _ x => x | _ => .skip
noncomputable def c28 : Code := match c27 with | .seq x _ => x | _ => .skip
noncomputable def c29 : Code := match c27 with | .seq _ x => x | _ => .skip
theorem e0 : c0 = .seq c1 c2 := by kernel_rfl
noncomputable def r1 : Array Oper := match c1 with | .region _ x _ => x | _ => #[]
theorem e1 : c1 = .region 0 r1 false := by kernel_rfl
theorem e2 : c2 = .seq c3 c4 := by kernel_rfl
noncomputable def r3 : Array Oper := match c3 with | .region _ x _ => x | _ => #[]
theorem e3 : c3 = .region 1 r3 false := by kernel_rfl
theorem e4 : c4 = .seq c5 c6 := by kernel_rfl
noncomputable def r5 : Array Oper := match c5 with | .region _ x _ => x | _ => #[]
theorem e5 : c5 = .region 2 r5 false := by kernel_rfl
theorem e6 : c6 = .seq c7 c27 := by kernel_rfl
theorem e7 : c7 = .seq c8 c9 := by kernel_rfl
noncomputable def r8 : Array Oper := match c8 with | .region _ x _ => x | _ => #[]
theorem e8 : c8 = .region 3 r8 false := by kernel_rfl
theorem e9 : c9 = .block 0 c10 := by kernel_rfl
theorem e10 : c10 = .loop c11 := by kernel_rfl
theorem e11 : c11 = .seq c12 c17 := by kernel_rfl
theorem e12 : c12 = .seq c13 c14 := by kernel_rfl
noncomputable def r13 : Array Oper := match c13 with | .region _ x _ => x | _ => #[]
theorem e13 : c13 = .region 4 r13 false := by kernel_rfl
theorem e14 : c14 = .cond (.tmp 9) c15 c16 := by kernel_rfl
theorem e15 : c15 = .skip := by kernel_rfl
theorem e16 : c16 = .exit 0 := by kernel_rfl
theorem e17 : c17 = .seq c18 c26 := by kernel_rfl
theorem e18 : c18 = .block 1 c19 := by kernel_rfl
theorem e19 : c19 = .seq c20 c21 := by kernel_rfl
noncomputable def r20 : Array Oper := match c20 with | .region _ x _ => x | _ => #[]
theorem e20 : c20 = .region 6 r20 false := by kernel_rfl
theorem e21 : c21 = .cond (.tmp 16) c22 c25 := by kernel_rfl
theorem e22 : c22 = .seq c23 c24 := by kernel_rfl
noncomputable def r23 : Array Oper := match c23 with | .region _ x _ => x | _ => #[]
theorem e23 : c23 = .region 7 r23 false := by kernel_rfl
theorem e24 : c24 = .ret := by kernel_rfl
theorem e25 : c25 = .skip := by kernel_rfl
noncomputable def r26 : Array Oper := match c26 with | .region _ x _ => x | _ => #[]
theorem e26 : c26 = .region 5 r26 false := by kernel_rfl
theorem e27 : c27 = .seq c28 c29 := by kernel_rfl
noncomputable def r28 : Array Oper := match c28 with | .region _ x _ => x | _ => #[]
theorem e28 : c28 = .region 8 r28 false := by kernel_rfl
theorem e29 : c29 = .ret := by kernel_rfl
theorem body : Try.f14.body = some c0 := by kernel_rfl
section
variable {base : Nat} {W0 : World} {β0 : Bt}
def L0 (k : Nat) : Nat → Int → (List UInt8) → (List UInt8) → Int → Option (Int)
  | 0, _, _, _, _ => none
  | n + 1, y0, y3, y4, y5 =>
    (if y5 < (List.length y3 : Int) then
    (Option.bind (sat y3 y5) fun p2 =>
    (if (UInt8.toNat p2 : Int) = y0 then
    (Option.bind (sat y4 y5) fun p4 =>
    some (UInt8.toNat p4 : Int)) else
    (L0 k n) y0 y3 y4 (w64 (y5 + 1)))) else
    some y0)
theorem L0_snd {k : Nat}  : ∀ {n : Nat} ⦃y0 : Int⦄ ⦃y3 : (List UInt8)⦄ ⦃y4 : (List UInt8)⦄ ⦃y5 : Int⦄ ⦃S : HS⦄ ⦃p : Int⦄ ⦃g1 g2 g6 g7 g8 g9 g10 g11 g12 g13 g14 g15 g16 g17 g18 g19 g20 : HV⦄, L0 k n y0 y3 y4 y5 = some p → HRun Try.prog base W0 β0 14 none [.inLoop c11, .inBlock 0, .code c27] ⟨[(.int .u8 y0), g1, g2, (.str y3), (.str y4), (.int .i64 y5), g6, g7, g8, g9, g10, g11, g12, g13, g14, g15, g16, g17, g18, g19, g20], []⟩ S (fun v S1 => v = (.int .u8 p) ∧ S1 = S) := by
  intro n
  induction n with
  | zero => intro _ _ _ _ _ _ _ _ _ _ _ _ _ _ _ _ _ _ _ _ _ _ _ h; cases h
  | succ n ih =>
    intro y0 y3 y4 y5 S p g1 g2 g6 g7 g8 g9 g10 g11 g12 g13 g14 g15 g16 g17 g18 g19 g20 h
    simp only [L0] at h
    refine hr_inLoop ?_
    refine q_seq e11 ?_
    refine q_seq e12 ?_
    refine q_region e13 rfl ?_
    refine q_op (dst := some 6) rfl (fun _ ho => ok_move ho (.tmp rfl)) ?_
    refine q_op (dst := some 7) rfl (fun _ ho => ok_move ho (.tmp rfl)) ?_
    refine q_op (dst := some 8) rfl (fun _ ho => ok_len_str ho rfl tu9 (.tmp rfl)) ?_
    refine q_op (dst := some 9) rfl (fun _ ho => ok_ibin ho (.tmp rfl) (.tmp rfl) rfl) ?_
    refine hr_region_end ?_
    try simp only [HAct.put, List.set_cons_zero, List.set_cons_succ]
    rcases ifc h with ⟨hc1, h⟩ | ⟨hc1, h⟩
    · refine q_cond_t e14 (.tmp rfl) (decide_eq_true hc1) ?_
      refine q_skipc e15 ?_
      refine q_seq e17 ?_
      refine q_block e18 ?_
      refine q_seq e19 ?_
      refine q_region e20 rfl ?_
      refine q_op (dst := some 12) rfl (fun _ ho => ok_move ho (.tmp rfl)) ?_
      refine q_op (dst := some 13) rfl (fun _ ho => ok_move ho (.tmp rfl)) ?_
      obtain ⟨p2, hp2, h⟩ := bindo h
      refine q_op (dst := some 14) rfl (fun _ ho => ok_index_s ho tu9 (.tmp rfl) (.tmp rfl) hp2) ?_
      refine q_op (dst := some 15) rfl (fun _ ho => ok_move ho (.tmp rfl)) ?_
      try simp only [HAct.put, List.set_cons_zero, List.set_cons_succ]
      refine q_op (dst := some 16) rfl (fun _ ho => ok_ibin ho (.tmp rfl) (.tmp rfl) rfl) ?_
      refine hr_region_end ?_
      try simp only [HAct.put, List.set_cons_zero, List.set_cons_succ]
      rcases ifc h with ⟨hc3, h⟩ | ⟨hc3, h⟩
      · refine q_cond_t e21 (.tmp rfl) (decide_eq_true hc3) ?_
        refine q_seq e22 ?_
        refine q_region e23 rfl ?_
        refine q_op (dst := some 17) rfl (fun _ ho => ok_move ho (.tmp rfl)) ?_
        refine q_op (dst := some 18) rfl (fun _ ho => ok_move ho (.tmp rfl)) ?_
        obtain ⟨p4, hp4, h⟩ := bindo h
        refine q_op (dst := some 19) rfl (fun _ ho => ok_index_s ho tu9 (.tmp rfl) (.tmp rfl) hp4) ?_
        refine q_op (dst := some 2) rfl (fun _ ho => ok_assign ho (.tmp rfl)) ?_
        refine hr_region_end ?_
        try simp only [HAct.put, List.set_cons_zero, List.set_cons_succ]
        cases h
        exact q_ret e24 at_.at_ rfl (res1 rfl rfl) ⟨rfl, rfl⟩
      · refine q_cond_f e21 (.tmp rfl) (decide_eq_false hc3) ?_
        refine q_skipc e25 ?_
        refine hr_inBlock ?_
        refine q_region e26 rfl ?_
        refine q_op (dst := some 10) rfl (fun _ ho => ok_move ho (.tmp rfl)) ?_
        refine q_op (dst := some 11) rfl (fun _ ho => ok_ibin ho (.tmp rfl) (.int _ _) rfl) ?_
        refine q_op (dst := some 5) rfl (fun _ ho => ok_assign ho (.tmp rfl)) ?_
        refine hr_region_end ?_
        try simp only [HAct.put, List.set_cons_zero, List.set_cons_succ]
        try simp only [HAct.put, List.set_cons_zero, List.set_cons_succ]
        exact ih h
    · refine q_cond_f e14 (.tmp rfl) (decide_eq_false hc1) ?_
      refine q_exit e16 rfl ?_
      refine q_seq e27 ?_
      refine q_region e28 rfl ?_
      refine q_op (dst := some 20) rfl (fun _ ho => ok_move ho (.tmp rfl)) ?_
      refine q_op (dst := some 2) rfl (fun _ ho => ok_assign ho (.tmp rfl)) ?_
      refine hr_region_end ?_
      try simp only [HAct.put, List.set_cons_zero, List.set_cons_succ]
      cases h
      exact q_ret e29 at_.at_ rfl (res1 rfl rfl) ⟨rfl, rfl⟩
def f (k : Nat) (x0 : Int) : Option (Int) :=
  L0 k k x0 ([65, 66, 67, 68, 69, 70, 71, 72, 73, 74, 75, 76, 77, 78, 79, 80, 81, 82, 83, 84, 85, 86, 87, 88, 89, 90, 91, 93, 92, 126] : List UInt8) ([97, 98, 99, 100, 101, 102, 103, 104, 105, 106, 107, 108, 109, 110, 111, 112, 113, 114, 115, 116, 117, 118, 119, 120, 121, 122, 123, 125, 124, 94] : List UInt8) 0
theorem snd {k : Nat} {x0 : Int} {S : HS}  {p : Int} (h : f k x0 = some p) : HCall Try.prog base W0 β0 14 [(.int .u8 x0)] S (fun v S1 => v = (.int .u8 p) ∧ S1 = S) := by
  unfold f at h
  refine HCall.of_run at_.at_ body ?_
  show HRun Try.prog base W0 β0 14 none [.code c0] ⟨[(.int .u8 x0), .tup [], .tup [], .tup [], .tup [], .tup [], .tup [], .tup [], .tup [], .tup [], .tup [], .tup [], .tup [], .tup [], .tup [], .tup [], .tup [], .tup [], .tup [], .tup [], .tup []], []⟩ S _
  refine q_seq e0 ?_
  refine q_region e1 rfl ?_
  refine q_op (dst := some 2) rfl (fun _ ho => ok_assign ho (.int _ _)) ?_
  refine hr_region_end ?_
  try simp only [HAct.put, List.set_cons_zero, List.set_cons_succ]
  refine q_seq e2 ?_
  refine q_region e3 rfl ?_
  refine q_op (dst := some 3) rfl (fun _ ho => ok_assign ho (.str _)) ?_
  refine hr_region_end ?_
  try simp only [HAct.put, List.set_cons_zero, List.set_cons_succ]
  refine q_seq e4 ?_
  refine q_region e5 rfl ?_
  refine q_op (dst := some 4) rfl (fun _ ho => ok_assign ho (.str _)) ?_
  refine hr_region_end ?_
  try simp only [HAct.put, List.set_cons_zero, List.set_cons_succ]
  refine q_seq e6 ?_
  refine q_seq e7 ?_
  refine q_region e8 rfl ?_
  refine q_op (dst := some 5) rfl (fun _ ho => ok_assign ho (.int _ _)) ?_
  refine hr_region_end ?_
  try simp only [HAct.put, List.set_cons_zero, List.set_cons_succ]
  refine q_block e9 ?_
  refine q_loop e10 ?_
  try simp only [HAct.put, List.set_cons_zero, List.set_cons_succ]
  exact L0_snd  h
end
end rollcallref01_Byte
namespace rollcallref01_Text
abbrev id : Nat := 11
theorem at_ : FnAt Try.prog 11 Try.f11 := ⟨Try.func11, by kernel_rfl⟩
noncomputable def c0 : Code := (Try.f11.body).getD .skip
noncomputable def c1 : Code := match c0 with | .seq x _ => x | _ => .skip
noncomputable def c2 : Code := match c0 with | .seq _ x => x | _ => .skip
noncomputable def c3 : Code := match c2 with | .seq x _ => x | _ => .skip
noncomputable def c4 : Code := match c2 with | .seq _ x => x | _ => .skip
noncomputable def c5 : Code := match c4 with | .seq x _ => x | _ => .skip
noncomputable def c6 : Code := match c5 with | .seq x _ => x | _ => .skip
noncomputable def c7 : Code := match c5 with | .seq _ x => x | _ => .skip
noncomputable def c8 : Code := match c7 with | .block _ x => x | _ => .skip
noncomputable def c9 : Code := match c8 with | .loop x => x | _ => .skip
noncomputable def c10 : Code := match c9 with | .seq x _ => x | _ => .skip
noncomputable def c11 : Code := match c10 with | .seq x _ => x | _ => .skip
noncomputable def c12 : Code := match c10 with | .seq _ x => x | _ => .skip
noncomputable def c13 : Code := match c12 with | .cond _ x _ => x | _ => .skip
noncomputable def c14 : Code := match c12 with | .cond _ _ x => x | _ => .skip
noncomputable def c15 : Code := match c9 with | .seq _ x => x | _ => .skip
noncomputable def c16 : Code := match c15 with | .seq x _ => x | _ => .skip
noncomputable def c17 : Code := match c16 with | .block _ x => x | _ => .skip
noncomputable def c18 : Code := match c15 with | .seq _ x => x | _ => .skip
noncomputable def c19 : Code := match c4 with | .seq _ x => x | _ => .skip
noncomputable def c20 : Code := match c19 with | .seq x _ => x | _ => .skip
noncomputable def c21 : Code := match c19 with | .seq _ x => x | _ => .skip
theorem e0 : c0 = .seq c1 c2 := by kernel_rfl
noncomputable def r1 : Array Oper := match c1 with | .region _ x _ => x | _ => #[]
theorem e1 : c1 = .region 0 r1 false := by kernel_rfl
theorem e2 : c2 = .seq c3 c4 := by kernel_rfl
noncomputable def r3 : Array Oper := match c3 with | .region _ x _ => x | _ => #[]
theorem e3 : c3 = .region 1 r3 false := by kernel_rfl
theorem e4 : c4 = .seq c5 c19 := by kernel_rfl
theorem e5 : c5 = .seq c6 c7 := by kernel_rfl
noncomputable def r6 : Array Oper := match c6 with | .region _ x _ => x | _ => #[]
theorem e6 : c6 = .region 2 r6 false := by kernel_rfl
theorem e7 : c7 = .block 0 c8 := by kernel_rfl
theorem e8 : c8 = .loop c9 := by kernel_rfl
theorem e9 : c9 = .seq c10 c15 := by kernel_rfl
theorem e10 : c10 = .seq c11 c12 := by kernel_rfl
noncomputable def r11 : Array Oper := match c11 with | .region _ x _ => x | _ => #[]
theorem e11 : c11 = .region 3 r11 false := by kernel_rfl
theorem e12 : c12 = .cond (.tmp 8) c13 c14 := by kernel_rfl
theorem e13 : c13 = .skip := by kernel_rfl
theorem e14 : c14 = .exit 0 := by kernel_rfl
theorem e15 : c15 = .seq c16 c18 := by kernel_rfl
theorem e16 : c16 = .block 1 c17 := by kernel_rfl
noncomputable def r17 : Array Oper := match c17 with | .region _ x _ => x | _ => #[]
theorem e17 : c17 = .region 5 r17 false := by kernel_rfl
noncomputable def r18 : Array Oper := match c18 with | .region _ x _ => x | _ => #[]
theorem e18 : c18 = .region 4 r18 false := by kernel_rfl
theorem e19 : c19 = .seq c20 c21 := by kernel_rfl
noncomputable def r20 : Array Oper := match c20 with | .region _ x _ => x | _ => #[]
theorem e20 : c20 = .region 6 r20 false := by kernel_rfl
theorem e21 : c21 = .ret := by kernel_rfl
theorem body : Try.f11.body = some c0 := by kernel_rfl
section
variable {base : Nat} {W0 : World} {β0 : Bt}
def L0 (k : Nat) : Nat → (List UInt8) → (List UInt8) → Int → HS → Option (((List UInt8)) × HS)
  | 0, _, _, _, _ => none
  | n + 1, y0, y3, y4, S =>
    (if y4 < (List.length y0 : Int) then
    (Option.bind (sat y0 y4) fun p2 =>
    (Option.bind (rollcallref01_Byte.f k (UInt8.toNat p2 : Int)) fun p3 =>
    (letv (HS.lit S [[(.int .u8 p3)]] 1) fun p4 =>
    (Option.bind (HS.text (p4.2) (p4.1)) fun p5 =>
    (if List.length y3 + List.length p5 ≤ 9223372036854775807 then
    (L0 k n) y0 (y3 ++ p5) (w64 (y4 + 1)) (p4.2) else none))))) else
    some (y3, S))
theorem L0_snd {k : Nat}  : ∀ {n : Nat} ⦃y0 : (List UInt8)⦄ ⦃y3 : (List UInt8)⦄ ⦃y4 : Int⦄ ⦃S : HS⦄ ⦃p : ((List UInt8)) × HS⦄ ⦃g1 g2 g5 g6 g7 g8 g9 g10 g11 g12 g13 g14 g15 g16 g17 g18 g19 : HV⦄, L0 k n y0 y3 y4 S = some p → HRun Try.prog base W0 β0 11 none [.inLoop c9, .inBlock 0, .code c19] ⟨[(.str y0), g1, g2, (.str y3), (.int .i64 y4), g5, g6, g7, g8, g9, g10, g11, g12, g13, g14, g15, g16, g17, g18, g19], []⟩ S (fun v S1 => v = (.str p.1) ∧ S1 = p.2) := by
  intro n
  induction n with
  | zero => intro _ _ _ _ _ _ _ _ _ _ _ _ _ _ _ _ _ _ _ _ _ _ h; cases h
  | succ n ih =>
    intro y0 y3 y4 S p g1 g2 g5 g6 g7 g8 g9 g10 g11 g12 g13 g14 g15 g16 g17 g18 g19 h
    simp only [L0] at h
    refine hr_inLoop ?_
    refine q_seq e9 ?_
    refine q_seq e10 ?_
    refine q_region e11 rfl ?_
    refine q_op (dst := some 5) rfl (fun _ ho => ok_move ho (.tmp rfl)) ?_
    refine q_op (dst := some 6) rfl (fun _ ho => ok_move ho (.tmp rfl)) ?_
    refine q_op (dst := some 7) rfl (fun _ ho => ok_len_str ho rfl tu9 (.tmp rfl)) ?_
    refine q_op (dst := some 8) rfl (fun _ ho => ok_ibin ho (.tmp rfl) (.tmp rfl) rfl) ?_
    refine hr_region_end ?_
    try simp only [HAct.put, List.set_cons_zero, List.set_cons_succ]
    rcases ifc h with ⟨hc1, h⟩ | ⟨hc1, h⟩
    · refine q_cond_t e12 (.tmp rfl) (decide_eq_true hc1) ?_
      refine q_skipc e13 ?_
      refine q_seq e15 ?_
      refine q_block e16 ?_
      refine q_region e17 rfl ?_
      refine q_op (dst := some 11) rfl (fun _ ho => ok_move ho (.tmp rfl)) ?_
      refine q_op (dst := some 12) rfl (fun _ ho => ok_move ho (.tmp rfl)) ?_
      refine q_op (dst := some 13) rfl (fun _ ho => ok_move ho (.tmp rfl)) ?_
      obtain ⟨p2, hp2, h⟩ := bindo h
      refine q_op (dst := some 14) rfl (fun _ ho => ok_index_s ho tu9 (.tmp rfl) (.tmp rfl) hp2) ?_
      try simp only [HAct.put, List.set_cons_zero, List.set_cons_succ]
      obtain ⟨p3, hp3, h⟩ := bindo h
      refine q_call (dst := some 15) rfl (.func _) (.cons (.tmp rfl) Evs.nil) (HInv.static rollcallref01_Byte.at_ rollcallref01_Byte.body (rollcallref01_Byte.snd  hp3)) ?_
      rintro _ _ ⟨rfl, rfl⟩
      obtain ⟨p4, hp4, h⟩ := leto h
      refine q_op (dst := some 16) rfl (fun _ ho => ok_buildSlice_s (xs := [(.tmp 15)]) el34 ho rfl rfl (by decide) (.cons (.tmp rfl) Evs.nil) rfl rfl hp4) ?_
      obtain ⟨p5, hp5, h⟩ := bindo h
      refine q_op (dst := some 17) rfl (fun _ ho => ok_str_of_bytes (s := (p4.1)) ho tu34 tu5 tu9 (.tmp rfl) hp5) ?_
      obtain ⟨hg6, h⟩ := gd h
      refine q_op (dst := some 18) rfl (fun _ ho => ok_sadd ho (.tmp rfl) (.tmp rfl) hg6) ?_
      try simp only [HAct.put, List.set_cons_zero, List.set_cons_succ]
      refine q_op (dst := some 3) rfl (fun _ ho => ok_assign ho (.tmp rfl)) ?_
      refine hr_region_end ?_
      try simp only [HAct.put, List.set_cons_zero, List.set_cons_succ]
      refine hr_inBlock ?_
      refine q_region e18 rfl ?_
      refine q_op (dst := some 9) rfl (fun _ ho => ok_move ho (.tmp rfl)) ?_
      refine q_op (dst := some 10) rfl (fun _ ho => ok_ibin ho (.tmp rfl) (.int _ _) rfl) ?_
      refine q_op (dst := some 4) rfl (fun _ ho => ok_assign ho (.tmp rfl)) ?_
      refine hr_region_end ?_
      try simp only [HAct.put, List.set_cons_zero, List.set_cons_succ]
      try simp only [HAct.put, List.set_cons_zero, List.set_cons_succ]
      exact ih h
    · refine q_cond_f e12 (.tmp rfl) (decide_eq_false hc1) ?_
      refine q_exit e14 rfl ?_
      refine q_seq e19 ?_
      refine q_region e20 rfl ?_
      refine q_op (dst := some 19) rfl (fun _ ho => ok_move ho (.tmp rfl)) ?_
      refine q_op (dst := some 2) rfl (fun _ ho => ok_assign ho (.tmp rfl)) ?_
      refine hr_region_end ?_
      try simp only [HAct.put, List.set_cons_zero, List.set_cons_succ]
      cases h
      exact q_ret e21 at_.at_ rfl (res1 rfl rfl) ⟨rfl, rfl⟩
def f (k : Nat) (x0 : (List UInt8)) (S : HS) : Option (((List UInt8)) × HS) :=
  L0 k k x0 ([] : List UInt8) 0 S
theorem snd {k : Nat} {x0 : (List UInt8)} {S : HS}  {p : ((List UInt8)) × HS} (h : f k x0 S = some p) : HCall Try.prog base W0 β0 11 [(.str x0)] S (fun v S1 => v = (.str p.1) ∧ S1 = p.2) := by
  unfold f at h
  refine HCall.of_run at_.at_ body ?_
  show HRun Try.prog base W0 β0 11 none [.code c0] ⟨[(.str x0), .tup [], .tup [], .tup [], .tup [], .tup [], .tup [], .tup [], .tup [], .tup [], .tup [], .tup [], .tup [], .tup [], .tup [], .tup [], .tup [], .tup [], .tup [], .tup []], []⟩ S _
  refine q_seq e0 ?_
  refine q_region e1 rfl ?_
  refine q_op (dst := some 2) rfl (fun _ ho => ok_assign ho (.str _)) ?_
  refine hr_region_end ?_
  try simp only [HAct.put, List.set_cons_zero, List.set_cons_succ]
  refine q_seq e2 ?_
  refine q_region e3 rfl ?_
  refine q_op (dst := some 3) rfl (fun _ ho => ok_assign ho (.str _)) ?_
  refine hr_region_end ?_
  try simp only [HAct.put, List.set_cons_zero, List.set_cons_succ]
  refine q_seq e4 ?_
  refine q_seq e5 ?_
  refine q_region e6 rfl ?_
  refine q_op (dst := some 4) rfl (fun _ ho => ok_assign ho (.int _ _)) ?_
  refine hr_region_end ?_
  try simp only [HAct.put, List.set_cons_zero, List.set_cons_succ]
  refine q_block e7 ?_
  refine q_loop e8 ?_
  try simp only [HAct.put, List.set_cons_zero, List.set_cons_succ]
  exact L0_snd  h
end
end rollcallref01_Text
namespace rollcalllaw01_FoldTexts
abbrev id : Nat := 3
theorem at_ : FnAt Try.prog 3 Try.f3 := ⟨Try.func3, by kernel_rfl⟩
noncomputable def c0 : Code := (Try.f3.body).getD .skip
noncomputable def c1 : Code := match c0 with | .seq x _ => x | _ => .skip
noncomputable def c2 : Code := match c0 with | .seq _ x => x | _ => .skip
noncomputable def c3 : Code := match c2 with | .seq x _ => x | _ => .skip
noncomputable def c4 : Code := match c3 with | .seq x _ => x | _ => .skip
noncomputable def c5 : Code := match c3 with | .seq _ x => x | _ => .skip
noncomputable def c6 : Code := match c5 with | .cond _ x _ => x | _ => .skip
noncomputable def c7 : Code := match c6 with | .seq x _ => x | _ => .skip
noncomputable def c8 : Code := match c6 with | .seq _ x => x | _ => .skip
noncomputable def c9 : Code := match c5 with | .cond _ _ x => x | _ => .skip
noncomputable def c10 : Code := match c2 with | .seq _ x => x | _ => .skip
noncomputable def c11 : Code := match c10 with | .seq x _ => x | _ => .skip
noncomputable def c12 : Code := match c11 with | .seq x _ => x | _ => .skip
noncomputable def c13 : Code := match c11 with | .seq _ x => x | _ => .skip
noncomputable def c14 : Code := match c13 with | .cond _ x _ => x | _ => .skip
noncomputable def c15 : Code := match c14 with | .seq x _ => x | _ => .skip
noncomputable def c16 : Code := match c14 with | .seq _ x => x | _ => .skip
noncomputable def c17 : Code := match c13 with | .cond _ _ x => x | _ => .skip
noncomputable def c18 : Code := match c10 with | .seq _ x => x | _ => .skip
noncomputable def c19 : Code := match c18 with | .seq x _ => x | _ => .skip
noncomputable def c20 : Code := match c18 with | .seq _ x => x | _ => .skip
noncomputable def c21 : Code := match c20 with | .seq x _ => x | _ => .skip
noncomputable def c22 : Code := match c20 with | .seq _ x => x | _ => .skip
theorem e0 : c0 = .seq c1 c2 := by kernel_rfl
noncomputable def r1 : Array Oper := match c1 with | .region _ x _ => x | _ => #[]
theorem e1 : c1 = .region 0 r1 false := by kernel_rfl
theorem e2 : c2 = .seq c3 c10 := by kernel_rfl
theorem e3 : c3 = .seq c4 c5 := by kernel_rfl
noncomputable def r4 : Array Oper := match c4 with | .region _ x _ => x | _ => #[]
theorem e4 : c4 = .region 1 r4 false := by kernel_rfl
theorem e5 : c5 = .cond (.tmp 5) c6 c9 := by kernel_rfl
theorem e6 : c6 = .seq c7 c8 := by kernel_rfl
noncomputable def r7 : Array Oper := match c7 with | .region _ x _ => x | _ => #[]
theorem e7 : c7 = .region 2 r7 false := by kernel_rfl
theorem e8 : c8 = .ret := by kernel_rfl
theorem e9 : c9 = .skip := by kernel_rfl
theorem e10 : c10 = .seq c11 c18 := by kernel_rfl
theorem e11 : c11 = .seq c12 c13 := by kernel_rfl
noncomputable def r12 : Array Oper := match c12 with | .region _ x _ => x | _ => #[]
theorem e12 : c12 = .region 3 r12 false := by kernel_rfl
theorem e13 : c13 = .cond (.tmp 8) c14 c17 := by kernel_rfl
theorem e14 : c14 = .seq c15 c16 := by kernel_rfl
noncomputable def r15 : Array Oper := match c15 with | .region _ x _ => x | _ => #[]
theorem e15 : c15 = .region 4 r15 false := by kernel_rfl
theorem e16 : c16 = .ret := by kernel_rfl
theorem e17 : c17 = .skip := by kernel_rfl
theorem e18 : c18 = .seq c19 c20 := by kernel_rfl
noncomputable def r19 : Array Oper := match c19 with | .region _ x _ => x | _ => #[]
theorem e19 : c19 = .region 5 r19 false := by kernel_rfl
theorem e20 : c20 = .seq c21 c22 := by kernel_rfl
noncomputable def r21 : Array Oper := match c21 with | .region _ x _ => x | _ => #[]
theorem e21 : c21 = .region 6 r21 false := by kernel_rfl
theorem e22 : c22 = .ret := by kernel_rfl
theorem body : Try.f3.body = some c0 := by kernel_rfl
section
variable {base : Nat} {W0 : World} {β0 : Bt}
def J1 (k : Nat) (y25 : Bool) (S : HS) : Option ((Bool) × HS) :=
  some (y25, S)
theorem J1_snd {k : Nat}  {y25 : Bool} {S : HS} {p : (Bool) × HS} {g0 g1 g2 g3 g4 g5 g6 g7 g8 g9 g10 g11 g12 g13 g14 g15 g16 g17 g18 g19 g20 g21 g22 g23 g24 : HV} (h : J1 k y25 S = some p) : HRun Try.prog base W0 β0 3 none [.inRegion r21 [15], .code c22] ⟨[g0, g1, g2, g3, g4, g5, g6, g7, g8, g9, g10, g11, g12, g13, g14, g15, g16, g17, g18, g19, g20, g21, g22, g23, g24, (.bool y25)], []⟩ S (fun v S1 => v = (.bool p.1) ∧ S1 = p.2) := by
  unfold J1 at h
  refine q_op (dst := some 2) rfl (fun _ ho => ok_assign ho (.tmp rfl)) ?_
  refine hr_region_end ?_
  try simp only [HAct.put, List.set_cons_zero, List.set_cons_succ]
  cases h
  exact q_ret e22 at_.at_ rfl (res1 rfl rfl) ⟨rfl, rfl⟩
def J0 (k : Nat) (y0 : (List UInt8)) (y3 : (List UInt8)) (y20 : Bool) (S : HS) : Option ((Bool) × HS) :=
  (if y20 = true then
  (Option.bind (fold_Same.f k y0 y3) fun p9 =>
  J1 k p9 S) else
  J1 k false S)
theorem J0_snd {k : Nat}  {y0 : (List UInt8)} {y3 : (List UInt8)} {y20 : Bool} {S : HS} {p : (Bool) × HS} {g1 g2 g4 g5 g6 g7 g8 g9 g10 g11 g12 g13 g14 g15 g16 g17 g18 g19 g21 g22 g23 g24 g25 : HV} (h : J0 k y0 y3 y20 S = some p) : HRun Try.prog base W0 β0 3 none [.inRegion r21 [10, 11, 12, 13, 14, 15], .code c22] ⟨[(.str y0), g1, g2, (.str y3), g4, g5, g6, g7, g8, g9, g10, g11, g12, g13, g14, g15, g16, g17, g18, g19, (.bool y20), g21, g22, g23, g24, g25], []⟩ S (fun v S1 => v = (.bool p.1) ∧ S1 = p.2) := by
  unfold J0 at h
  refine q_op (dst := some 21) rfl (fun _ ho => ok_move ho (.tmp rfl)) ?_
  rcases ifc h with ⟨hc8, h⟩ | ⟨hc8, h⟩
  · refine q_op_g (t := 21) (dst := some 22) rfl rfl rfl hc8 (fun _ ho => ok_move ho (.tmp rfl)) ?_
    try simp only [HAct.put, List.set_cons_zero, List.set_cons_succ]
    refine q_op_g (t := 21) (dst := some 23) rfl rfl rfl hc8 (fun _ ho => ok_move ho (.tmp rfl)) ?_
    obtain ⟨p9, hp9, h⟩ := bindo h
    refine q_call_g (t := 21) (dst := some 24) rfl rfl rfl hc8 (.func _) (.cons (.tmp rfl) (.cons (.tmp rfl) Evs.nil)) (HInv.static fold_Same.at_ fold_Same.body (fold_Same.snd  hp9)) ?_
    rintro _ _ ⟨rfl, rfl⟩
    refine q_op (dst := some 25) rfl (fun _ ho => ok_pick_tt ho (.tmp rfl) hc8 (.tmp rfl)) ?_
    try simp only [HAct.put, List.set_cons_zero, List.set_cons_succ]
    exact J1_snd  h
  · refine q_skip (dst := some 22) (t := 21) rfl rfl rfl (bfalse hc8) ?_
    try simp only [HAct.put, List.set_cons_zero, List.set_cons_succ]
    refine q_skip (dst := some 23) (t := 21) rfl rfl rfl (bfalse hc8) ?_
    refine q_skip (dst := some 24) (t := 21) rfl rfl rfl (bfalse hc8) ?_
    refine q_op (dst := some 25) rfl (fun _ ho => ok_pick_ff ho (.tmp rfl) (bfalse hc8) (.bool _)) ?_
    try simp only [HAct.put, List.set_cons_zero, List.set_cons_succ]
    exact J1_snd  h
def f (k : Nat) (x0 : (List UInt8)) (S : HS) : Option ((Bool) × HS) :=
  (Option.bind (rollcalllaw01_awake.f k S) fun p1 =>
  (if (!p1.1) = true then
  some (false, p1.2) else
  (if (List.length x0 : Int) > 200 then
  some (true, p1.2) else
  (Option.bind (fold_Text.f k x0 p1.2) fun p4 =>
  (Option.bind (rollcallref01_Text.f k x0 p4.2) fun p5 =>
  (if p4.1 = p5.1 then
  (Option.bind (fold_Text.f k p4.1 p5.2) fun p7 =>
  J0 k x0 p4.1 (decide (p7.1 = p4.1)) p7.2) else
  J0 k x0 p4.1 false p5.2))))))
theorem snd {k : Nat} {x0 : (List UInt8)} {S : HS}  {p : (Bool) × HS} (h : f k x0 S = some p) : HCall Try.prog base W0 β0 3 [(.str x0)] S (fun v S1 => v = (.bool p.1) ∧ S1 = p.2) := by
  unfold f at h
  refine HCall.of_run at_.at_ body ?_
  show HRun Try.prog base W0 β0 3 none [.code c0] ⟨[(.str x0), .tup [], .tup [], .tup [], .tup [], .tup [], .tup [], .tup [], .tup [], .tup [], .tup [], .tup [], .tup [], .tup [], .tup [], .tup [], .tup [], .tup [], .tup [], .tup [], .tup [], .tup [], .tup [], .tup [], .tup [], .tup []], []⟩ S _
  refine q_seq e0 ?_
  refine q_region e1 rfl ?_
  refine q_op (dst := some 2) rfl (fun _ ho => ok_assign ho (.bool _)) ?_
  refine hr_region_end ?_
  try simp only [HAct.put, List.set_cons_zero, List.set_cons_succ]
  refine q_seq e2 ?_
  refine q_seq e3 ?_
  refine q_region e4 rfl ?_
  obtain ⟨p1, hp1, h⟩ := bindo h
  refine q_call (dst := some 4) rfl (.func _) Evs.nil (HInv.static rollcalllaw01_awake.at_ rollcalllaw01_awake.body (rollcalllaw01_awake.snd  hp1)) ?_
  rintro _ _ ⟨rfl, rfl⟩
  refine q_op (dst := some 5) rfl (fun _ ho => ok_not ho (.tmp rfl)) ?_
  refine hr_region_end ?_
  try simp only [HAct.put, List.set_cons_zero, List.set_cons_succ]
  rcases ifc h with ⟨hc2, h⟩ | ⟨hc2, h⟩
  · refine q_cond_t e5 (.tmp rfl) hc2 ?_
    refine q_seq e6 ?_
    refine q_region e7 rfl ?_
    refine q_op (dst := some 2) rfl (fun _ ho => ok_assign ho (.bool _)) ?_
    refine hr_region_end ?_
    try simp only [HAct.put, List.set_cons_zero, List.set_cons_succ]
    cases h
    exact q_ret e8 at_.at_ rfl (res1 rfl rfl) ⟨rfl, rfl⟩
  · refine q_cond_f e5 (.tmp rfl) (bfalse hc2) ?_
    refine q_skipc e9 ?_
    refine q_seq e10 ?_
    refine q_seq e11 ?_
    refine q_region e12 rfl ?_
    refine q_op (dst := some 6) rfl (fun _ ho => ok_move ho (.tmp rfl)) ?_
    refine q_op (dst := some 7) rfl (fun _ ho => ok_len_str ho rfl tu9 (.tmp rfl)) ?_
    refine q_op (dst := some 8) rfl (fun _ ho => ok_ibin ho (.tmp rfl) (.int _ _) rfl) ?_
    refine hr_region_end ?_
    try simp only [HAct.put, List.set_cons_zero, List.set_cons_succ]
    rcases ifc h with ⟨hc3, h⟩ | ⟨hc3, h⟩
    · refine q_cond_t e13 (.tmp rfl) (decide_eq_true hc3) ?_
      refine q_seq e14 ?_
      refine q_region e15 rfl ?_
      refine q_op (dst := some 2) rfl (fun _ ho => ok_assign ho (.bool _)) ?_
      refine hr_region_end ?_
      try simp only [HAct.put, List.set_cons_zero, List.set_cons_succ]
      cases h
      exact q_ret e16 at_.at_ rfl (res1 rfl rfl) ⟨rfl, rfl⟩
    · refine q_cond_f e13 (.tmp rfl) (decide_eq_false hc3) ?_
      refine q_skipc e17 ?_
      refine q_seq e18 ?_
      refine q_region e19 rfl ?_
      refine q_op (dst := some 9) rfl (fun _ ho => ok_move ho (.tmp rfl)) ?_
      obtain ⟨p4, hp4, h⟩ := bindo h
      refine q_call (dst := some 10) rfl (.func _) (.cons (.tmp rfl) Evs.nil) (HInv.static fold_Text.at_ fold_Text.body (fold_Text.snd  hp4)) ?_
      rintro _ _ ⟨rfl, rfl⟩
      refine q_op (dst := some 3) rfl (fun _ ho => ok_assign ho (.tmp rfl)) ?_
      refine hr_region_end ?_
      try simp only [HAct.put, List.set_cons_zero, List.set_cons_succ]
      refine q_seq e20 ?_
      refine q_region e21 rfl ?_
      refine q_op (dst := some 11) rfl (fun _ ho => ok_move ho (.tmp rfl)) ?_
      refine q_op (dst := some 12) rfl (fun _ ho => ok_move ho (.tmp rfl)) ?_
      obtain ⟨p5, hp5, h⟩ := bindo h
      refine q_call (dst := some 13) rfl (.func _) (.cons (.tmp rfl) Evs.nil) (HInv.static rollcallref01_Text.at_ rollcallref01_Text.body (rollcallref01_Text.snd  hp5)) ?_
      rintro _ _ ⟨rfl, rfl⟩
      refine q_op (dst := some 14) rfl (fun _ ho => ok_sbin ho (.tmp rfl) (.tmp rfl) rfl) ?_
      try simp only [HAct.put, List.set_cons_zero, List.set_cons_succ]
      refine q_op (dst := some 15) rfl (fun _ ho => ok_move ho (.tmp rfl)) ?_
      rcases ifc h with ⟨hc6, h⟩ | ⟨hc6, h⟩
      · refine q_op_g (t := 15) (dst := some 16) rfl rfl rfl (decide_eq_true hc6) (fun _ ho => ok_move ho (.tmp rfl)) ?_
        obtain ⟨p7, hp7, h⟩ := bindo h
        refine q_call_g (t := 15) (dst := some 17) rfl rfl rfl (decide_eq_true hc6) (.func _) (.cons (.tmp rfl) Evs.nil) (HInv.static fold_Text.at_ fold_Text.body (fold_Text.snd  hp7)) ?_
        rintro _ _ ⟨rfl, rfl⟩
        refine q_op_g (t := 15) (dst := some 18) rfl rfl rfl (decide_eq_true hc6) (fun _ ho => ok_move ho (.tmp rfl)) ?_
        try simp only [HAct.put, List.set_cons_zero, List.set_cons_succ]
        refine q_op_g (t := 15) (dst := some 19) rfl rfl rfl (decide_eq_true hc6) (fun _ ho => ok_sbin ho (.tmp rfl) (.tmp rfl) rfl) ?_
        refine q_op (dst := some 20) rfl (fun _ ho => ok_pick_tt ho (.tmp rfl) (decide_eq_true hc6) (.tmp rfl)) ?_
        try simp only [HAct.put, List.set_cons_zero, List.set_cons_succ]
        exact J0_snd  h
      · refine q_skip (dst := some 16) (t := 15) rfl rfl rfl (decide_eq_false hc6) ?_
        refine q_skip (dst := some 17) (t := 15) rfl rfl rfl (decide_eq_false hc6) ?_
        refine q_skip (dst := some 18) (t := 15) rfl rfl rfl (decide_eq_false hc6) ?_
        try simp only [HAct.put, List.set_cons_zero, List.set_cons_succ]
        refine q_skip (dst := some 19) (t := 15) rfl rfl rfl (decide_eq_false hc6) ?_
        refine q_op (dst := some 20) rfl (fun _ ho => ok_pick_ff ho (.tmp rfl) (decide_eq_false hc6) (.bool _)) ?_
        try simp only [HAct.put, List.set_cons_zero, List.set_cons_succ]
        exact J0_snd  h
end
end rollcalllaw01_FoldTexts
namespace rollcalllaw01_FoldBytes
abbrev id : Nat := 4
theorem at_ : FnAt Try.prog 4 Try.f4 := ⟨Try.func4, by kernel_rfl⟩
noncomputable def c0 : Code := (Try.f4.body).getD .skip
noncomputable def c1 : Code := match c0 with | .seq x _ => x | _ => .skip
noncomputable def c2 : Code := match c0 with | .seq _ x => x | _ => .skip
noncomputable def c3 : Code := match c2 with | .seq x _ => x | _ => .skip
noncomputable def c4 : Code := match c3 with | .seq x _ => x | _ => .skip
noncomputable def c5 : Code := match c3 with | .seq _ x => x | _ => .skip
noncomputable def c6 : Code := match c5 with | .cond _ x _ => x | _ => .skip
noncomputable def c7 : Code := match c6 with | .seq x _ => x | _ => .skip
noncomputable def c8 : Code := match c6 with | .seq _ x => x | _ => .skip
noncomputable def c9 : Code := match c5 with | .cond _ _ x => x | _ => .skip
noncomputable def c10 : Code := match c2 with | .seq _ x => x | _ => .skip
noncomputable def c11 : Code := match c10 with | .seq x _ => x | _ => .skip
noncomputable def c12 : Code := match c10 with | .seq _ x => x | _ => .skip
noncomputable def c13 : Code := match c12 with | .seq x _ => x | _ => .skip
noncomputable def c14 : Code := match c12 with | .seq _ x => x | _ => .skip
theorem e0 : c0 = .seq c1 c2 := by kernel_rfl
noncomputable def r1 : Array Oper := match c1 with | .region _ x _ => x | _ => #[]
theorem e1 : c1 = .region 0 r1 false := by kernel_rfl
theorem e2 : c2 = .seq c3 c10 := by kernel_rfl
theorem e3 : c3 = .seq c4 c5 := by kernel_rfl
noncomputable def r4 : Array Oper := match c4 with | .region _ x _ => x | _ => #[]
theorem e4 : c4 = .region 1 r4 false := by kernel_rfl
theorem e5 : c5 = .cond (.tmp 5) c6 c9 := by kernel_rfl
theorem e6 : c6 = .seq c7 c8 := by kernel_rfl
noncomputable def r7 : Array Oper := match c7 with | .region _ x _ => x | _ => #[]
theorem e7 : c7 = .region 2 r7 false := by kernel_rfl
theorem e8 : c8 = .ret := by kernel_rfl
theorem e9 : c9 = .skip := by kernel_rfl
theorem e10 : c10 = .seq c11 c12 := by kernel_rfl
noncomputable def r11 : Array Oper := match c11 with | .region _ x _ => x | _ => #[]
theorem e11 : c11 = .region 3 r11 false := by kernel_rfl
theorem e12 : c12 = .seq c13 c14 := by kernel_rfl
noncomputable def r13 : Array Oper := match c13 with | .region _ x _ => x | _ => #[]
theorem e13 : c13 = .region 4 r13 false := by kernel_rfl
theorem e14 : c14 = .ret := by kernel_rfl
theorem body : Try.f4.body = some c0 := by kernel_rfl
section
variable {base : Nat} {W0 : World} {β0 : Bt}
def J0 (k : Nat) (y17 : Bool) (S : HS) : Option ((Bool) × HS) :=
  some (y17, S)
theorem J0_snd {k : Nat}  {y17 : Bool} {S : HS} {p : (Bool) × HS} {g0 g1 g2 g3 g4 g5 g6 g7 g8 g9 g10 g11 g12 g13 g14 g15 g16 : HV} (h : J0 k y17 S = some p) : HRun Try.prog base W0 β0 4 none [.inRegion r13 [10], .code c14] ⟨[g0, g1, g2, g3, g4, g5, g6, g7, g8, g9, g10, g11, g12, g13, g14, g15, g16, (.bool y17)], []⟩ S (fun v S1 => v = (.bool p.1) ∧ S1 = p.2) := by
  unfold J0 at h
  refine q_op (dst := some 2) rfl (fun _ ho => ok_assign ho (.tmp rfl)) ?_
  refine hr_region_end ?_
  try simp only [HAct.put, List.set_cons_zero, List.set_cons_succ]
  cases h
  exact q_ret e14 at_.at_ rfl (res1 rfl rfl) ⟨rfl, rfl⟩
def f (k : Nat) (x0 : Int) (S : HS) : Option ((Bool) × HS) :=
  (Option.bind (rollcalllaw01_awake.f k S) fun p1 =>
  (if (!p1.1) = true then
  some (false, p1.2) else
  (Option.bind (fold_Byte.f x0) fun p3 =>
  (Option.bind (rollcallref01_Byte.f k x0) fun p4 =>
  (if p3 = p4 then
  (Option.bind (fold_Byte.f p3) fun p6 =>
  J0 k (decide (p6 = p3)) p1.2) else
  J0 k false p1.2)))))
theorem snd {k : Nat} {x0 : Int} {S : HS}  {p : (Bool) × HS} (h : f k x0 S = some p) : HCall Try.prog base W0 β0 4 [(.int .u8 x0)] S (fun v S1 => v = (.bool p.1) ∧ S1 = p.2) := by
  unfold f at h
  refine HCall.of_run at_.at_ body ?_
  show HRun Try.prog base W0 β0 4 none [.code c0] ⟨[(.int .u8 x0), .tup [], .tup [], .tup [], .tup [], .tup [], .tup [], .tup [], .tup [], .tup [], .tup [], .tup [], .tup [], .tup [], .tup [], .tup [], .tup [], .tup []], []⟩ S _
  refine q_seq e0 ?_
  refine q_region e1 rfl ?_
  refine q_op (dst := some 2) rfl (fun _ ho => ok_assign ho (.bool _)) ?_
  refine hr_region_end ?_
  try simp only [HAct.put, List.set_cons_zero, List.set_cons_succ]
  refine q_seq e2 ?_
  refine q_seq e3 ?_
  refine q_region e4 rfl ?_
  obtain ⟨p1, hp1, h⟩ := bindo h
  refine q_call (dst := some 4) rfl (.func _) Evs.nil (HInv.static rollcalllaw01_awake.at_ rollcalllaw01_awake.body (rollcalllaw01_awake.snd  hp1)) ?_
  rintro _ _ ⟨rfl, rfl⟩
  refine q_op (dst := some 5) rfl (fun _ ho => ok_not ho (.tmp rfl)) ?_
  refine hr_region_end ?_
  try simp only [HAct.put, List.set_cons_zero, List.set_cons_succ]
  rcases ifc h with ⟨hc2, h⟩ | ⟨hc2, h⟩
  · refine q_cond_t e5 (.tmp rfl) hc2 ?_
    refine q_seq e6 ?_
    refine q_region e7 rfl ?_
    refine q_op (dst := some 2) rfl (fun _ ho => ok_assign ho (.bool _)) ?_
    refine hr_region_end ?_
    try simp only [HAct.put, List.set_cons_zero, List.set_cons_succ]
    cases h
    exact q_ret e8 at_.at_ rfl (res1 rfl rfl) ⟨rfl, rfl⟩
  · refine q_cond_f e5 (.tmp rfl) (bfalse hc2) ?_
    refine q_skipc e9 ?_
    refine q_seq e10 ?_
    refine q_region e11 rfl ?_
    refine q_op (dst := some 6) rfl (fun _ ho => ok_move ho (.tmp rfl)) ?_
    obtain ⟨p3, hp3, h⟩ := bindo h
    refine q_call (dst := some 7) rfl (.func _) (.cons (.tmp rfl) Evs.nil) (HInv.static fold_Byte.at_ fold_Byte.body (fold_Byte.snd  hp3)) ?_
    rintro _ _ ⟨rfl, rfl⟩
    refine q_op (dst := some 3) rfl (fun _ ho => ok_assign ho (.tmp rfl)) ?_
    refine hr_region_end ?_
    try simp only [HAct.put, List.set_cons_zero, List.set_cons_succ]
    refine q_seq e12 ?_
    refine q_region e13 rfl ?_
    refine q_op (dst := some 8) rfl (fun _ ho => ok_move ho (.tmp rfl)) ?_
    refine q_op (dst := some 9) rfl (fun _ ho => ok_move ho (.tmp rfl)) ?_
    obtain ⟨p4, hp4, h⟩ := bindo h
    refine q_call (dst := some 10) rfl (.func _) (.cons (.tmp rfl) Evs.nil) (HInv.static rollcallref01_Byte.at_ rollcallref01_Byte.body (rollcallref01_Byte.snd  hp4)) ?_
    rintro _ _ ⟨rfl, rfl⟩
    refine q_op (dst := some 11) rfl (fun _ ho => ok_ibin ho (.tmp rfl) (.tmp rfl) rfl) ?_
    try simp only [HAct.put, List.set_cons_zero, List.set_cons_succ]
    refine q_op (dst := some 12) rfl (fun _ ho => ok_move ho (.tmp rfl)) ?_
    rcases ifc h with ⟨hc5, h⟩ | ⟨hc5, h⟩
    · refine q_op_g (t := 12) (dst := some 13) rfl rfl rfl (decide_eq_true hc5) (fun _ ho => ok_move ho (.tmp rfl)) ?_
      obtain ⟨p6, hp6, h⟩ := bindo h
      refine q_call_g (t := 12) (dst := some 14) rfl rfl rfl (decide_eq_true hc5) (.func _) (.cons (.tmp rfl) Evs.nil) (HInv.static fold_Byte.at_ fold_Byte.body (fold_Byte.snd  hp6)) ?_
      rintro _ _ ⟨rfl, rfl⟩
      refine q_op_g (t := 12) (dst := some 15) rfl rfl rfl (decide_eq_true hc5) (fun _ ho => ok_move ho (.tmp rfl)) ?_
      try simp only [HAct.put, List.set_cons_zero, List.set_cons_succ]
      refine q_op_g (t := 12) (dst := some 16) rfl rfl rfl (decide_eq_true hc5) (fun _ ho => ok_ibin ho (.tmp rfl) (.tmp rfl) rfl) ?_
      refine q_op (dst := some 17) rfl (fun _ ho => ok_pick_tt ho (.tmp rfl) (decide_eq_true hc5) (.tmp rfl)) ?_
      try simp only [HAct.put, List.set_cons_zero, List.set_cons_succ]
      exact J0_snd  h
    · refine q_skip (dst := some 13) (t := 12) rfl rfl rfl (decide_eq_false hc5) ?_
      refine q_skip (dst := some 14) (t := 12) rfl rfl rfl (decide_eq_false hc5) ?_
      refine q_skip (dst := some 15) (t := 12) rfl rfl rfl (decide_eq_false hc5) ?_
      try simp only [HAct.put, List.set_cons_zero, List.set_cons_succ]
      refine q_skip (dst := some 16) (t := 12) rfl rfl rfl (decide_eq_false hc5) ?_
      refine q_op (dst := some 17) rfl (fun _ ho => ok_pick_ff ho (.tmp rfl) (decide_eq_false hc5) (.bool _)) ?_
      try simp only [HAct.put, List.set_cons_zero, List.set_cons_succ]
      exact J0_snd  h
end
end rollcalllaw01_FoldBytes
namespace rollcalllaw01_FoldHalves
abbrev id : Nat := 5
theorem at_ : FnAt Try.prog 5 Try.f5 := ⟨Try.func5, by kernel_rfl⟩
noncomputable def c0 : Code := (Try.f5.body).getD .skip
noncomputable def c1 : Code := match c0 with | .seq x _ => x | _ => .skip
noncomputable def c2 : Code := match c0 with | .seq _ x => x | _ => .skip
noncomputable def c3 : Code := match c2 with | .seq x _ => x | _ => .skip
noncomputable def c4 : Code := match c3 with | .seq x _ => x | _ => .skip
noncomputable def c5 : Code := match c3 with | .seq _ x => x | _ => .skip
noncomputable def c6 : Code := match c5 with | .cond _ x _ => x | _ => .skip
noncomputable def c7 : Code := match c6 with | .seq x _ => x | _ => .skip
noncomputable def c8 : Code := match c6 with | .seq _ x => x | _ => .skip
noncomputable def c9 : Code := match c5 with | .cond _ _ x => x | _ => .skip
noncomputable def c10 : Code := match c2 with | .seq _ x => x | _ => .skip
noncomputable def c11 : Code := match c10 with | .seq x _ => x | _ => .skip
noncomputable def c12 : Code := match c11 with | .seq x _ => x | _ => .skip
noncomputable def c13 : Code := match c11 with | .seq _ x => x | _ => .skip
noncomputable def c14 : Code := match c13 with | .cond _ x _ => x | _ => .skip
noncomputable def c15 : Code := match c14 with | .seq x _ => x | _ => .skip
noncomputable def c16 : Code := match c14 with | .seq _ x => x | _ => .skip
noncomputable def c17 : Code := match c13 with | .cond _ _ x => x | _ => .skip
noncomputable def c18 : Code := match c10 with | .seq _ x => x | _ => .skip
noncomputable def c19 : Code := match c18 with | .seq x _ => x | _ => .skip
noncomputable def c20 : Code := match c19 with | .seq x _ => x | _ => .skip
noncomputable def c21 : Code := match c19 with | .seq _ x => x | _ => .skip
noncomputable def c22 : Code := match c21 with | .cond _ x _ => x | _ => .skip
noncomputable def c23 : Code := match c22 with | .seq x _ => x | _ => .skip
noncomputable def c24 : Code := match c22 with | .seq _ x => x | _ => .skip
noncomputable def c25 : Code := match c21 with | .cond _ _ x => x | _ => .skip
noncomputable def c26 : Code := match c18 with | .seq _ x => x | _ => .skip
noncomputable def c27 : Code := match c26 with | .seq x _ => x | _ => .skip
noncomputable def c28 : Code := match c26 with | .seq _ x => x | _ => .skip
theorem e0 : c0 = .seq c1 c2 := by kernel_rfl
noncomputable def r1 : Array Oper := match c1 with | .region _ x _ => x | _ => #[]
theorem e1 : c1 = .region 0 r1 false := by kernel_rfl
theorem e2 : c2 = .seq c3 c10 := by kernel_rfl
theorem e3 : c3 = .seq c4 c5 := by kernel_rfl
noncomputable def r4 : Array Oper := match c4 with | .region _ x _ => x | _ => #[]
theorem e4 : c4 = .region 1 r4 false := by kernel_rfl
theorem e5 : c5 = .cond (.tmp 10) c6 c9 := by kernel_rfl
theorem e6 : c6 = .seq c7 c8 := by kernel_rfl
noncomputable def r7 : Array Oper := match c7 with | .region _ x _ => x | _ => #[]
theorem e7 : c7 = .region 2 r7 false := by kernel_rfl
theorem e8 : c8 = .ret := by kernel_rfl
theorem e9 : c9 = .skip := by kernel_rfl
theorem e10 : c10 = .seq c11 c18 := by kernel_rfl
theorem e11 : c11 = .seq c12 c13 := by kernel_rfl
noncomputable def r12 : Array Oper := match c12 with | .region _ x _ => x | _ => #[]
theorem e12 : c12 = .region 3 r12 false := by kernel_rfl
theorem e13 : c13 = .cond (.tmp 28) c14 c17 := by kernel_rfl
theorem e14 : c14 = .seq c15 c16 := by kernel_rfl
noncomputable def r15 : Array Oper := match c15 with | .region _ x _ => x | _ => #[]
theorem e15 : c15 = .region 4 r15 false := by kernel_rfl
theorem e16 : c16 = .ret := by kernel_rfl
theorem e17 : c17 = .skip := by kernel_rfl
theorem e18 : c18 = .seq c19 c26 := by kernel_rfl
theorem e19 : c19 = .seq c20 c21 := by kernel_rfl
noncomputable def r20 : Array Oper := match c20 with | .region _ x _ => x | _ => #[]
theorem e20 : c20 = .region 5 r20 false := by kernel_rfl
theorem e21 : c21 = .cond (.tmp 38) c22 c25 := by kernel_rfl
theorem e22 : c22 = .seq c23 c24 := by kernel_rfl
noncomputable def r23 : Array Oper := match c23 with | .region _ x _ => x | _ => #[]
theorem e23 : c23 = .region 6 r23 false := by kernel_rfl
theorem e24 : c24 = .ret := by kernel_rfl
theorem e25 : c25 = .skip := by kernel_rfl
theorem e26 : c26 = .seq c27 c28 := by kernel_rfl
noncomputable def r27 : Array Oper := match c27 with | .region _ x _ => x | _ => #[]
theorem e27 : c27 = .region 7 r27 false := by kernel_rfl
theorem e28 : c28 = .ret := by kernel_rfl
theorem body : Try.f5.body = some c0 := by kernel_rfl
section
variable {base : Nat} {W0 : World} {β0 : Bt}
def J3 (k : Nat) (y61 : Bool) (S : HS) : Option ((Bool) × HS) :=
  some (y61, S)
theorem J3_snd {k : Nat}  {y61 : Bool} {S : HS} {p : (Bool) × HS} {g0 g1 g2 g3 g4 g5 g6 g7 g8 g9 g10 g11 g12 g13 g14 g15 g16 g17 g18 g19 g20 g21 g22 g23 g24 g25 g26 g27 g28 g29 g30 g31 g32 g33 g34 g35 g36 g37 g38 g39 g40 g41 g42 g43 g44 g45 g46 g47 g48 g49 g50 g51 g52 g53 g54 g55 g56 g57 g58 g59 g60 : HV} (h : J3 k y61 S = some p) : HRun Try.prog base W0 β0 5 none [.inRegion r27 [23], .code c28] ⟨[g0, g1, g2, g3, g4, g5, g6, g7, g8, g9, g10, g11, g12, g13, g14, g15, g16, g17, g18, g19, g20, g21, g22, g23, g24, g25, g26, g27, g28, g29, g30, g31, g32, g33, g34, g35, g36, g37, g38, g39, g40, g41, g42, g43, g44, g45, g46, g47, g48, g49, g50, g51, g52, g53, g54, g55, g56, g57, g58, g59, g60, (.bool y61)], []⟩ S (fun v S1 => v = (.bool p.1) ∧ S1 = p.2) := by
  unfold J3 at h
  refine q_op (dst := some 8) rfl (fun _ ho => ok_assign ho (.tmp rfl)) ?_
  refine hr_region_end ?_
  try simp only [HAct.put, List.set_cons_zero, List.set_cons_succ]
  cases h
  exact q_ret e28 at_.at_ rfl (res1 rfl rfl) ⟨rfl, rfl⟩
def J4 (k : Nat) (y44 : Bool) (y51 : Bool) (y59 : Bool) (S : HS) : Option ((Bool) × HS) :=
  (if y44 = true then
  J3 k true S else
  J3 k (y51 == y59) S)
theorem J4_snd {k : Nat}  {y44 : Bool} {y51 : Bool} {y59 : Bool} {S : HS} {p : (Bool) × HS} {g0 g1 g2 g3 g4 g5 g6 g7 g8 g9 g10 g11 g12 g13 g14 g15 g16 g17 g18 g19 g20 g21 g22 g23 g24 g25 g26 g27 g28 g29 g30 g31 g32 g33 g34 g35 g36 g37 g38 g39 g40 g41 g42 g43 g45 g46 g47 g48 g49 g50 g52 g53 g54 g55 g56 g57 g58 g60 g61 : HV} (h : J4 k y44 y51 y59 S = some p) : HRun Try.prog base W0 β0 5 none [.inRegion r27 [21, 22, 23], .code c28] ⟨[g0, g1, g2, g3, g4, g5, g6, g7, g8, g9, g10, g11, g12, g13, g14, g15, g16, g17, g18, g19, g20, g21, g22, g23, g24, g25, g26, g27, g28, g29, g30, g31, g32, g33, g34, g35, g36, g37, g38, g39, g40, g41, g42, g43, (.bool y44), g45, g46, g47, g48, g49, g50, (.bool y51), g52, g53, g54, g55, g56, g57, g58, (.bool y59), g60, g61], []⟩ S (fun v S1 => v = (.bool p.1) ∧ S1 = p.2) := by
  unfold J4 at h
  rcases ifc h with ⟨hc20, h⟩ | ⟨hc20, h⟩
  · refine q_skip (dst := some 60) (t := 44) rfl rfl rfl hc20 ?_
    refine q_op (dst := some 61) rfl (fun _ ho => ok_pick_tt ho (.tmp rfl) hc20 (.bool _)) ?_
    try simp only [HAct.put, List.set_cons_zero, List.set_cons_succ]
    exact J3_snd  h
  · refine q_op_g (t := 44) (dst := some 60) rfl rfl rfl (bfalse hc20) (fun _ ho => ok_beq ho tu4 (.inl ⟨rfl, rfl⟩) (.tmp rfl) (.tmp rfl)) ?_
    refine q_op (dst := some 61) rfl (fun _ ho => ok_pick_ff ho (.tmp rfl) (bfalse hc20) (.tmp rfl)) ?_
    try simp only [HAct.put, List.set_cons_zero, List.set_cons_succ]
    exact J3_snd  h
def J2 (k : Nat) (y0 : (List UInt8)) (y1 : (List UInt8)) (y2 : (List UInt8)) (y3 : (List UInt8)) (y28 : Bool) (S : HS) : Option ((Bool) × HS) :=
  (if y28 = true then
  some (true, S) else
  (if List.length y0 + List.length y1 ≤ 9223372036854775807 then
  (Option.bind (fold_Text.f k (y0 ++ y1) S) fun p8 =>
  (Option.bind (fold_Text.f k y0 p8.2) fun p9 =>
  (Option.bind (fold_Text.f k y1 p9.2) fun p10 =>
  (if List.length p9.1 + List.length p10.1 ≤ 9223372036854775807 then
  (if (!decide (p8.1 = (p9.1 ++ p10.1))) = true then
  some (false, p10.2) else
  (if (!decide ((List.length y0 : Int) = (List.length y2 : Int))) = true then
  J3 k true p10.2 else
  (if List.length y0 + List.length y1 ≤ 9223372036854775807 then
  (if List.length y2 + List.length y3 ≤ 9223372036854775807 then
  (Option.bind (fold_Same.f k (y0 ++ y1) (y2 ++ y3)) fun p16 =>
  (Option.bind (fold_Same.f k y0 y2) fun p17 =>
  (if p17 = true then
  (Option.bind (fold_Same.f k y1 y3) fun p19 =>
  J4 k (!decide ((List.length y0 : Int) = (List.length y2 : Int))) p16 p19 p10.2) else
  J4 k (!decide ((List.length y0 : Int) = (List.length y2 : Int))) p16 false p10.2))) else none) else none))) else none)))) else none))
theorem J2_snd {k : Nat}  {y0 : (List UInt8)} {y1 : (List UInt8)} {y2 : (List UInt8)} {y3 : (List UInt8)} {y28 : Bool} {S : HS} {p : (Bool) × HS} {g4 g5 g6 g7 g8 g9 g10 g11 g12 g13 g14 g15 g16 g17 g18 g19 g20 g21 g22 g23 g24 g25 g26 g27 g29 g30 g31 g32 g33 g34 g35 g36 g37 g38 g39 g40 g41 g42 g43 g44 g45 g46 g47 g48 g49 g50 g51 g52 g53 g54 g55 g56 g57 g58 g59 g60 g61 : HV} (h : J2 k y0 y1 y2 y3 y28 S = some p) : HRun Try.prog base W0 β0 5 none [.code c13, .code c18] ⟨[(.str y0), (.str y1), (.str y2), (.str y3), g4, g5, g6, g7, g8, g9, g10, g11, g12, g13, g14, g15, g16, g17, g18, g19, g20, g21, g22, g23, g24, g25, g26, g27, (.bool y28), g29, g30, g31, g32, g33, g34, g35, g36, g37, g38, g39, g40, g41, g42, g43, g44, g45, g46, g47, g48, g49, g50, g51, g52, g53, g54, g55, g56, g57, g58, g59, g60, g61], []⟩ S (fun v S1 => v = (.bool p.1) ∧ S1 = p.2) := by
  unfold J2 at h
  rcases ifc h with ⟨hc6, h⟩ | ⟨hc6, h⟩
  · refine q_cond_t e13 (.tmp rfl) hc6 ?_
    refine q_seq e14 ?_
    refine q_region e15 rfl ?_
    refine q_op (dst := some 8) rfl (fun _ ho => ok_assign ho (.bool _)) ?_
    refine hr_region_end ?_
    try simp only [HAct.put, List.set_cons_zero, List.set_cons_succ]
    cases h
    exact q_ret e16 at_.at_ rfl (res1 rfl rfl) ⟨rfl, rfl⟩
  · refine q_cond_f e13 (.tmp rfl) (bfalse hc6) ?_
    refine q_skipc e17 ?_
    refine q_seq e18 ?_
    refine q_seq e19 ?_
    refine q_region e20 rfl ?_
    refine q_op (dst := some 29) rfl (fun _ ho => ok_move ho (.tmp rfl)) ?_
    refine q_op (dst := some 30) rfl (fun _ ho => ok_move ho (.tmp rfl)) ?_
    obtain ⟨hg7, h⟩ := gd h
    refine q_op (dst := some 31) rfl (fun _ ho => ok_sadd ho (.tmp rfl) (.tmp rfl) hg7) ?_
    obtain ⟨p8, hp8, h⟩ := bindo h
    refine q_call (dst := some 32) rfl (.func _) (.cons (.tmp rfl) Evs.nil) (HInv.static fold_Text.at_ fold_Text.body (fold_Text.snd  hp8)) ?_
    rintro _ _ ⟨rfl, rfl⟩
    try simp only [HAct.put, List.set_cons_zero, List.set_cons_succ]
    refine q_op (dst := some 33) rfl (fun _ ho => ok_move ho (.tmp rfl)) ?_
    obtain ⟨p9, hp9, h⟩ := bindo h
    refine q_call (dst := some 34) rfl (.func _) (.cons (.tmp rfl) Evs.nil) (HInv.static fold_Text.at_ fold_Text.body (fold_Text.snd  hp9)) ?_
    rintro _ _ ⟨rfl, rfl⟩
    refine q_op (dst := some 35) rfl (fun _ ho => ok_move ho (.tmp rfl)) ?_
    obtain ⟨p10, hp10, h⟩ := bindo h
    refine q_call (dst := some 36) rfl (.func _) (.cons (.tmp rfl) Evs.nil) (HInv.static fold_Text.at_ fold_Text.body (fold_Text.snd  hp10)) ?_
    rintro _ _ ⟨rfl, rfl⟩
    try simp only [HAct.put, List.set_cons_zero, List.set_cons_succ]
    obtain ⟨hg11, h⟩ := gd h
    refine q_op (dst := some 37) rfl (fun _ ho => ok_sadd ho (.tmp rfl) (.tmp rfl) hg11) ?_
    refine q_op (dst := some 38) rfl (fun _ ho => ok_sbin ho (.tmp rfl) (.tmp rfl) rfl) ?_
    refine hr_region_end ?_
    try simp only [HAct.put, List.set_cons_zero, List.set_cons_succ]
    rcases ifc h with ⟨hc12, h⟩ | ⟨hc12, h⟩
    · refine q_cond_t e21 (.tmp rfl) hc12 ?_
      refine q_seq e22 ?_
      refine q_region e23 rfl ?_
      refine q_op (dst := some 8) rfl (fun _ ho => ok_assign ho (.bool _)) ?_
      refine hr_region_end ?_
      try simp only [HAct.put, List.set_cons_zero, List.set_cons_succ]
      cases h
      exact q_ret e24 at_.at_ rfl (res1 rfl rfl) ⟨rfl, rfl⟩
    · refine q_cond_f e21 (.tmp rfl) (bfalse hc12) ?_
      refine q_skipc e25 ?_
      refine q_seq e26 ?_
      refine q_region e27 rfl ?_
      refine q_op (dst := some 39) rfl (fun _ ho => ok_move ho (.tmp rfl)) ?_
      refine q_op (dst := some 40) rfl (fun _ ho => ok_len_str ho rfl tu9 (.tmp rfl)) ?_
      refine q_op (dst := some 41) rfl (fun _ ho => ok_move ho (.tmp rfl)) ?_
      refine q_op (dst := some 42) rfl (fun _ ho => ok_len_str ho rfl tu9 (.tmp rfl)) ?_
      try simp only [HAct.put, List.set_cons_zero, List.set_cons_succ]
      refine q_op (dst := some 43) rfl (fun _ ho => ok_ibin ho (.tmp rfl) (.tmp rfl) rfl) ?_
      refine q_op (dst := some 44) rfl (fun _ ho => ok_move ho (.tmp rfl)) ?_
      rcases ifc h with ⟨hc13, h⟩ | ⟨hc13, h⟩
      · refine q_skip (dst := some 45) (t := 44) rfl rfl rfl hc13 ?_
        refine q_skip (dst := some 46) (t := 44) rfl rfl rfl hc13 ?_
        try simp only [HAct.put, List.set_cons_zero, List.set_cons_succ]
        refine q_skip (dst := some 47) (t := 44) rfl rfl rfl hc13 ?_
        refine q_skip (dst := some 48) (t := 44) rfl rfl rfl hc13 ?_
        refine q_skip (dst := some 49) (t := 44) rfl rfl rfl hc13 ?_
        refine q_skip (dst := some 50) (t := 44) rfl rfl rfl hc13 ?_
        try simp only [HAct.put, List.set_cons_zero, List.set_cons_succ]
        refine q_skip (dst := some 51) (t := 44) rfl rfl rfl hc13 ?_
        refine q_skip (dst := some 52) (t := 44) rfl rfl rfl hc13 ?_
        refine q_skip (dst := some 53) (t := 44) rfl rfl rfl hc13 ?_
        refine q_skip (dst := some 54) (t := 44) rfl rfl rfl hc13 ?_
        try simp only [HAct.put, List.set_cons_zero, List.set_cons_succ]
        refine q_skip (dst := some 55) (t := 44) rfl rfl rfl hc13 ?_
        refine q_skip_u (dst := some 56) (t := 55) rfl rfl rfl ?_
        refine q_skip_u (dst := some 57) (t := 55) rfl rfl rfl ?_
        refine q_skip_u (dst := some 58) (t := 55) rfl rfl rfl ?_
        try simp only [HAct.put, List.set_cons_zero, List.set_cons_succ]
        refine q_skip (dst := some 59) (t := 44) rfl rfl rfl hc13 ?_
        refine q_skip (dst := some 60) (t := 44) rfl rfl rfl hc13 ?_
        refine q_op (dst := some 61) rfl (fun _ ho => ok_pick_tt ho (.tmp rfl) hc13 (.bool _)) ?_
        try simp only [HAct.put, List.set_cons_zero, List.set_cons_succ]
        exact J3_snd  h
      · refine q_op_g (t := 44) (dst := some 45) rfl rfl rfl (bfalse hc13) (fun _ ho => ok_move ho (.tmp rfl)) ?_
        refine q_op_g (t := 44) (dst := some 46) rfl rfl rfl (bfalse hc13) (fun _ ho => ok_move ho (.tmp rfl)) ?_
        try simp only [HAct.put, List.set_cons_zero, List.set_cons_succ]
        obtain ⟨hg14, h⟩ := gd h
        refine q_op_g (t := 44) (dst := some 47) rfl rfl rfl (bfalse hc13) (fun _ ho => ok_sadd ho (.tmp rfl) (.tmp rfl) hg14) ?_
        refine q_op_g (t := 44) (dst := some 48) rfl rfl rfl (bfalse hc13) (fun _ ho => ok_move ho (.tmp rfl)) ?_
        refine q_op_g (t := 44) (dst := some 49) rfl rfl rfl (bfalse hc13) (fun _ ho => ok_move ho (.tmp rfl)) ?_
        obtain ⟨hg15, h⟩ := gd h
        refine q_op_g (t := 44) (dst := some 50) rfl rfl rfl (bfalse hc13) (fun _ ho => ok_sadd ho (.tmp rfl) (.tmp rfl) hg15) ?_
        try simp only [HAct.put, List.set_cons_zero, List.set_cons_succ]
        obtain ⟨p16, hp16, h⟩ := bindo h
        refine q_call_g (t := 44) (dst := some 51) rfl rfl rfl (bfalse hc13) (.func _) (.cons (.tmp rfl) (.cons (.tmp rfl) Evs.nil)) (HInv.static fold_Same.at_ fold_Same.body (fold_Same.snd  hp16)) ?_
        rintro _ _ ⟨rfl, rfl⟩
        refine q_op_g (t := 44) (dst := some 52) rfl rfl rfl (bfalse hc13) (fun _ ho => ok_move ho (.tmp rfl)) ?_
        refine q_op_g (t := 44) (dst := some 53) rfl rfl rfl (bfalse hc13) (fun _ ho => ok_move ho (.tmp rfl)) ?_
        obtain ⟨p17, hp17, h⟩ := bindo h
        refine q_call_g (t := 44) (dst := some 54) rfl rfl rfl (bfalse hc13) (.func _) (.cons (.tmp rfl) (.cons (.tmp rfl) Evs.nil)) (HInv.static fold_Same.at_ fold_Same.body (fold_Same.snd  hp17)) ?_
        rintro _ _ ⟨rfl, rfl⟩
        try simp only [HAct.put, List.set_cons_zero, List.set_cons_succ]
        refine q_op_g (t := 44) (dst := some 55) rfl rfl rfl (bfalse hc13) (fun _ ho => ok_move ho (.tmp rfl)) ?_
        rcases ifc h with ⟨hc18, h⟩ | ⟨hc18, h⟩
        · refine q_op_g (t := 55) (dst := some 56) rfl rfl rfl hc18 (fun _ ho => ok_move ho (.tmp rfl)) ?_
          refine q_op_g (t := 55) (dst := some 57) rfl rfl rfl hc18 (fun _ ho => ok_move ho (.tmp rfl)) ?_
          obtain ⟨p19, hp19, h⟩ := bindo h
          refine q_call_g (t := 55) (dst := some 58) rfl rfl rfl hc18 (.func _) (.cons (.tmp rfl) (.cons (.tmp rfl) Evs.nil)) (HInv.static fold_Same.at_ fold_Same.body (fold_Same.snd  hp19)) ?_
          rintro _ _ ⟨rfl, rfl⟩
          try simp only [HAct.put, List.set_cons_zero, List.set_cons_succ]
          refine q_op_g (t := 44) (dst := some 59) rfl rfl rfl (bfalse hc13) (fun _ ho => ok_pick_tt ho (.tmp rfl) hc18 (.tmp rfl)) ?_
          try simp only [HAct.put, List.set_cons_zero, List.set_cons_succ]
          exact J4_snd  h
        · refine q_skip (dst := some 56) (t := 55) rfl rfl rfl (bfalse hc18) ?_
          refine q_skip (dst := some 57) (t := 55) rfl rfl rfl (bfalse hc18) ?_
          refine q_skip (dst := some 58) (t := 55) rfl rfl rfl (bfalse hc18) ?_
          try simp only [HAct.put, List.set_cons_zero, List.set_cons_succ]
          refine q_op_g (t := 44) (dst := some 59) rfl rfl rfl (bfalse hc13) (fun _ ho => ok_pick_ff ho (.tmp rfl) (bfalse hc18) (.bool _)) ?_
          try simp only [HAct.put, List.set_cons_zero, List.set_cons_succ]
          exact J4_snd  h
def J1 (k : Nat) (y0 : (List UInt8)) (y1 : (List UInt8)) (y2 : (List UInt8)) (y3 : (List UInt8)) (y23 : Bool) (S : HS) : Option ((Bool) × HS) :=
  (if y23 = true then
  J2 k y0 y1 y2 y3 true S else
  J2 k y0 y1 y2 y3 (decide ((List.length y3 : Int) > 60)) S)
theorem J1_snd {k : Nat}  {y0 : (List UInt8)} {y1 : (List UInt8)} {y2 : (List UInt8)} {y3 : (List UInt8)} {y23 : Bool} {S : HS} {p : (Bool) × HS} {g4 g5 g6 g7 g8 g9 g10 g11 g12 g13 g14 g15 g16 g17 g18 g19 g20 g21 g22 g24 g25 g26 g27 g28 g29 g30 g31 g32 g33 g34 g35 g36 g37 g38 g39 g40 g41 g42 g43 g44 g45 g46 g47 g48 g49 g50 g51 g52 g53 g54 g55 g56 g57 g58 g59 g60 g61 : HV} (h : J1 k y0 y1 y2 y3 y23 S = some p) : HRun Try.prog base W0 β0 5 none [.inRegion r12 [13, 14, 15, 16, 17], .code c13, .code c18] ⟨[(.str y0), (.str y1), (.str y2), (.str y3), g4, g5, g6, g7, g8, g9, g10, g11, g12, g13, g14, g15, g16, g17, g18, g19, g20, g21, g22, (.bool y23), g24, g25, g26, g27, g28, g29, g30, g31, g32, g33, g34, g35, g36, g37, g38, g39, g40, g41, g42, g43, g44, g45, g46, g47, g48, g49, g50, g51, g52, g53, g54, g55, g56, g57, g58, g59, g60, g61], []⟩ S (fun v S1 => v = (.bool p.1) ∧ S1 = p.2) := by
  unfold J1 at h
  refine q_op (dst := some 24) rfl (fun _ ho => ok_move ho (.tmp rfl)) ?_
  rcases ifc h with ⟨hc5, h⟩ | ⟨hc5, h⟩
  · refine q_skip (dst := some 25) (t := 24) rfl rfl rfl hc5 ?_
    refine q_skip (dst := some 26) (t := 24) rfl rfl rfl hc5 ?_
    try simp only [HAct.put, List.set_cons_zero, List.set_cons_succ]
    refine q_skip (dst := some 27) (t := 24) rfl rfl rfl hc5 ?_
    refine q_op (dst := some 28) rfl (fun _ ho => ok_pick_tt ho (.tmp rfl) hc5 (.bool _)) ?_
    refine hr_region_end ?_
    try simp only [HAct.put, List.set_cons_zero, List.set_cons_succ]
    try simp only [HAct.put, List.set_cons_zero, List.set_cons_succ]
    exact J2_snd  h
  · refine q_op_g (t := 24) (dst := some 25) rfl rfl rfl (bfalse hc5) (fun _ ho => ok_move ho (.tmp rfl)) ?_
    refine q_op_g (t := 24) (dst := some 26) rfl rfl rfl (bfalse hc5) (fun _ ho => ok_len_str ho rfl tu9 (.tmp rfl)) ?_
    try simp only [HAct.put, List.set_cons_zero, List.set_cons_succ]
    refine q_op_g (t := 24) (dst := some 27) rfl rfl rfl (bfalse hc5) (fun _ ho => ok_ibin ho (.tmp rfl) (.int _ _) rfl) ?_
    refine q_op (dst := some 28) rfl (fun _ ho => ok_pick_ff ho (.tmp rfl) (bfalse hc5) (.tmp rfl)) ?_
    refine hr_region_end ?_
    try simp only [HAct.put, List.set_cons_zero, List.set_cons_succ]
    try simp only [HAct.put, List.set_cons_zero, List.set_cons_succ]
    exact J2_snd  h
def J0 (k : Nat) (y0 : (List UInt8)) (y1 : (List UInt8)) (y2 : (List UInt8)) (y3 : (List UInt8)) (y18 : Bool) (S : HS) : Option ((Bool) × HS) :=
  (if y18 = true then
  J1 k y0 y1 y2 y3 true S else
  J1 k y0 y1 y2 y3 (decide ((List.length y2 : Int) > 60)) S)
theorem J0_snd {k : Nat}  {y0 : (List UInt8)} {y1 : (List UInt8)} {y2 : (List UInt8)} {y3 : (List UInt8)} {y18 : Bool} {S : HS} {p : (Bool) × HS} {g4 g5 g6 g7 g8 g9 g10 g11 g12 g13 g14 g15 g16 g17 g19 g20 g21 g22 g23 g24 g25 g26 g27 g28 g29 g30 g31 g32 g33 g34 g35 g36 g37 g38 g39 g40 g41 g42 g43 g44 g45 g46 g47 g48 g49 g50 g51 g52 g53 g54 g55 g56 g57 g58 g59 g60 g61 : HV} (h : J0 k y0 y1 y2 y3 y18 S = some p) : HRun Try.prog base W0 β0 5 none [.inRegion r12 [8, 9, 10, 11, 12, 13, 14, 15, 16, 17], .code c13, .code c18] ⟨[(.str y0), (.str y1), (.str y2), (.str y3), g4, g5, g6, g7, g8, g9, g10, g11, g12, g13, g14, g15, g16, g17, (.bool y18), g19, g20, g21, g22, g23, g24, g25, g26, g27, g28, g29, g30, g31, g32, g33, g34, g35, g36, g37, g38, g39, g40, g41, g42, g43, g44, g45, g46, g47, g48, g49, g50, g51, g52, g53, g54, g55, g56, g57, g58, g59, g60, g61], []⟩ S (fun v S1 => v = (.bool p.1) ∧ S1 = p.2) := by
  unfold J0 at h
  refine q_op (dst := some 19) rfl (fun _ ho => ok_move ho (.tmp rfl)) ?_
  rcases ifc h with ⟨hc4, h⟩ | ⟨hc4, h⟩
  · refine q_skip (dst := some 20) (t := 19) rfl rfl rfl hc4 ?_
    refine q_skip (dst := some 21) (t := 19) rfl rfl rfl hc4 ?_
    refine q_skip (dst := some 22) (t := 19) rfl rfl rfl hc4 ?_
    try simp only [HAct.put, List.set_cons_zero, List.set_cons_succ]
    refine q_op (dst := some 23) rfl (fun _ ho => ok_pick_tt ho (.tmp rfl) hc4 (.bool _)) ?_
    try simp only [HAct.put, List.set_cons_zero, List.set_cons_succ]
    exact J1_snd  h
  · refine q_op_g (t := 19) (dst := some 20) rfl rfl rfl (bfalse hc4) (fun _ ho => ok_move ho (.tmp rfl)) ?_
    refine q_op_g (t := 19) (dst := some 21) rfl rfl rfl (bfalse hc4) (fun _ ho => ok_len_str ho rfl tu9 (.tmp rfl)) ?_
    refine q_op_g (t := 19) (dst := some 22) rfl rfl rfl (bfalse hc4) (fun _ ho => ok_ibin ho (.tmp rfl) (.int _ _) rfl) ?_
    try simp only [HAct.put, List.set_cons_zero, List.set_cons_succ]
    refine q_op (dst := some 23) rfl (fun _ ho => ok_pick_ff ho (.tmp rfl) (bfalse hc4) (.tmp rfl)) ?_
    try simp only [HAct.put, List.set_cons_zero, List.set_cons_succ]
    exact J1_snd  h
def f (k : Nat) (x0 : (List UInt8)) (x1 : (List UInt8)) (x2 : (List UInt8)) (x3 : (List UInt8)) (S : HS) : Option ((Bool) × HS) :=
  (Option.bind (rollcalllaw01_awake.f k S) fun p1 =>
  (if (!p1.1) = true then
  some (false, p1.2) else
  (if (List.length x0 : Int) > 60 then
  J0 k x0 x1 x2 x3 true p1.2 else
  J0 k x0 x1 x2 x3 (decide ((List.length x1 : Int) > 60)) p1.2)))
theorem snd {k : Nat} {x0 : (List UInt8)} {x1 : (List UInt8)} {x2 : (List UInt8)} {x3 : (List UInt8)} {S : HS}  {p : (Bool) × HS} (h : f k x0 x1 x2 x3 S = some p) : HCall Try.prog base W0 β0 5 [(.str x0), (.str x1), (.str x2), (.str x3)] S (fun v S1 => v = (.bool p.1) ∧ S1 = p.2) := by
  unfold f at h
  refine HCall.of_run at_.at_ body ?_
  show HRun Try.prog base W0 β0 5 none [.code c0] ⟨[(.str x0), (.str x1), (.str x2), (.str x3), .tup [], .tup [], .tup [], .tup [], .tup [], .tup [], .tup [], .tup [], .tup [], .tup [], .tup [], .tup [], .tup [], .tup [], .tup [], .tup [], .tup [], .tup [], .tup [], .tup [], .tup [], .tup [], .tup [], .tup [], .tup [], .tup [], .tup [], .tup [], .tup [], .tup [], .tup [], .tup [], .tup [], .tup [], .tup [], .tup [], .tup [], .tup [], .tup [], .tup [], .tup [], .tup [], .tup [], .tup [], .tup [], .tup [], .tup [], .tup [], .tup [], .tup [], .tup [], .tup [], .tup [], .tup [], .tup [], .tup [], .tup [], .tup []], []⟩ S _
  refine q_seq e0 ?_
  refine q_region e1 rfl ?_
  refine q_op (dst := some 8) rfl (fun _ ho => ok_assign ho (.bool _)) ?_
  refine hr_region_end ?_
  try simp only [HAct.put, List.set_cons_zero, List.set_cons_succ]
  refine q_seq e2 ?_
  refine q_seq e3 ?_
  refine q_region e4 rfl ?_
  obtain ⟨p1, hp1, h⟩ := bindo h
  refine q_call (dst := some 9) rfl (.func _) Evs.nil (HInv.static rollcalllaw01_awake.at_ rollcalllaw01_awake.body (rollcalllaw01_awake.snd  hp1)) ?_
  rintro _ _ ⟨rfl, rfl⟩
  refine q_op (dst := some 10) rfl (fun _ ho => ok_not ho (.tmp rfl)) ?_
  refine hr_region_end ?_
  try simp only [HAct.put, List.set_cons_zero, List.set_cons_succ]
  rcases ifc h with ⟨hc2, h⟩ | ⟨hc2, h⟩
  · refine q_cond_t e5 (.tmp rfl) hc2 ?_
    refine q_seq e6 ?_
    refine q_region e7 rfl ?_
    refine q_op (dst := some 8) rfl (fun _ ho => ok_assign ho (.bool _)) ?_
    refine hr_region_end ?_
    try simp only [HAct.put, List.set_cons_zero, List.set_cons_succ]
    cases h
    exact q_ret e8 at_.at_ rfl (res1 rfl rfl) ⟨rfl, rfl⟩
  · refine q_cond_f e5 (.tmp rfl) (bfalse hc2) ?_
    refine q_skipc e9 ?_
    refine q_seq e10 ?_
    refine q_seq e11 ?_
    refine q_region e12 rfl ?_
    refine q_op (dst := some 11) rfl (fun _ ho => ok_move ho (.tmp rfl)) ?_
    refine q_op (dst := some 12) rfl (fun _ ho => ok_len_str ho rfl tu9 (.tmp rfl)) ?_
    refine q_op (dst := some 13) rfl (fun _ ho => ok_ibin ho (.tmp rfl) (.int _ _) rfl) ?_
    refine q_op (dst := some 14) rfl (fun _ ho => ok_move ho (.tmp rfl)) ?_
    try simp only [HAct.put, List.set_cons_zero, List.set_cons_succ]
    rcases ifc h with ⟨hc3, h⟩ | ⟨hc3, h⟩
    · refine q_skip (dst := some 15) (t := 14) rfl rfl rfl (decide_eq_true hc3) ?_
      refine q_skip (dst := some 16) (t := 14) rfl rfl rfl (decide_eq_true hc3) ?_
      refine q_skip (dst := some 17) (t := 14) rfl rfl rfl (decide_eq_true hc3) ?_
      refine q_op (dst := some 18) rfl (fun _ ho => ok_pick_tt ho (.tmp rfl) (decide_eq_true hc3) (.bool _)) ?_
      try simp only [HAct.put, List.set_cons_zero, List.set_cons_succ]
      try simp only [HAct.put, List.set_cons_zero, List.set_cons_succ]
      exact J0_snd  h
    · refine q_op_g (t := 14) (dst := some 15) rfl rfl rfl (decide_eq_false hc3) (fun _ ho => ok_move ho (.tmp rfl)) ?_
      refine q_op_g (t := 14) (dst := some 16) rfl rfl rfl (decide_eq_false hc3) (fun _ ho => ok_len_str ho rfl tu9 (.tmp rfl)) ?_
      refine q_op_g (t := 14) (dst := some 17) rfl rfl rfl (decide_eq_false hc3) (fun _ ho => ok_ibin ho (.tmp rfl) (.int _ _) rfl) ?_
      refine q_op (dst := some 18) rfl (fun _ ho => ok_pick_ff ho (.tmp rfl) (decide_eq_false hc3) (.tmp rfl)) ?_
      try simp only [HAct.put, List.set_cons_zero, List.set_cons_succ]
      try simp only [HAct.put, List.set_cons_zero, List.set_cons_succ]
      exact J0_snd  h
end
end rollcalllaw01_FoldHalves
namespace rollcallref01_Same
abbrev id : Nat := 15
theorem at_ : FnAt Try.prog 15 Try.f15 := ⟨Try.func15, by kernel_rfl⟩
noncomputable def c0 : Code := (Try.f15.body).getD .skip
noncomputable def c1 : Code := match c0 with | .seq x _ => x | _ => .skip
noncomputable def c2 : Code := match c0 with | .seq _ x => x | _ => .skip
noncomputable def c3 : Code := match c2 with | .seq x _ => x | _ => .skip
noncomputable def c4 : Code := match c2 with | .seq _ x => x | _ => .skip
theorem e0 : c0 = .seq c1 c2 := by kernel_rfl
noncomputable def r1 : Array Oper := match c1 with | .region _ x _ => x | _ => #[]
theorem e1 : c1 = .region 0 r1 false := by kernel_rfl
theorem e2 : c2 = .seq c3 c4 := by kernel_rfl
noncomputable def r3 : Array Oper := match c3 with | .region _ x _ => x | _ => #[]
theorem e3 : c3 = .region 1 r3 false := by kernel_rfl
theorem e4 : c4 = .ret := by kernel_rfl
theorem body : Try.f15.body = some c0 := by kernel_rfl
section
variable {base : Nat} {W0 : World} {β0 : Bt}
def f (k : Nat) (x0 : (List UInt8)) (x1 : (List UInt8)) (S : HS) : Option ((Bool) × HS) :=
  (Option.bind (rollcallref01_Text.f k x0 S) fun p1 =>
  (Option.bind (rollcallref01_Text.f k x1 p1.2) fun p2 =>
  some ((decide (p1.1 = p2.1)), p2.2)))
theorem snd {k : Nat} {x0 : (List UInt8)} {x1 : (List UInt8)} {S : HS}  {p : (Bool) × HS} (h : f k x0 x1 S = some p) : HCall Try.prog base W0 β0 15 [(.str x0), (.str x1)] S (fun v S1 => v = (.bool p.1) ∧ S1 = p.2) := by
  unfold f at h
  refine HCall.of_run at_.at_ body ?_
  show HRun Try.prog base W0 β0 15 none [.code c0] ⟨[(.str x0), (.str x1), .tup [], .tup [], .tup [], .tup [], .tup [], .tup [], .tup [], .tup []], []⟩ S _
  refine q_seq e0 ?_
  refine q_region e1 rfl ?_
  refine q_op (dst := some 4) rfl (fun _ ho => ok_assign ho (.bool _)) ?_
  refine hr_region_end ?_
  try simp only [HAct.put, List.set_cons_zero, List.set_cons_succ]
  refine q_seq e2 ?_
  refine q_region e3 rfl ?_
  refine q_op (dst := some 5) rfl (fun _ ho => ok_move ho (.tmp rfl)) ?_
  obtain ⟨p1, hp1, h⟩ := bindo h
  refine q_call (dst := some 6) rfl (.func _) (.cons (.tmp rfl) Evs.nil) (HInv.static rollcallref01_Text.at_ rollcallref01_Text.body (rollcallref01_Text.snd  hp1)) ?_
  rintro _ _ ⟨rfl, rfl⟩
  refine q_op (dst := some 7) rfl (fun _ ho => ok_move ho (.tmp rfl)) ?_
  obtain ⟨p2, hp2, h⟩ := bindo h
  refine q_call (dst := some 8) rfl (.func _) (.cons (.tmp rfl) Evs.nil) (HInv.static rollcallref01_Text.at_ rollcallref01_Text.body (rollcallref01_Text.snd  hp2)) ?_
  rintro _ _ ⟨rfl, rfl⟩
  try simp only [HAct.put, List.set_cons_zero, List.set_cons_succ]
  refine q_op (dst := some 9) rfl (fun _ ho => ok_sbin ho (.tmp rfl) (.tmp rfl) rfl) ?_
  refine q_op (dst := some 4) rfl (fun _ ho => ok_assign ho (.tmp rfl)) ?_
  refine hr_region_end ?_
  try simp only [HAct.put, List.set_cons_zero, List.set_cons_succ]
  cases h
  exact q_ret e4 at_.at_ rfl (res1 rfl rfl) ⟨rfl, rfl⟩
end
end rollcallref01_Same
namespace rollcallref01_Compare
abbrev id : Nat := 17
theorem at_ : FnAt Try.prog 17 Try.f17 := ⟨Try.func17, by kernel_rfl⟩
noncomputable def c0 : Code := (Try.f17.body).getD .skip
noncomputable def c1 : Code := match c0 with | .seq x _ => x | _ => .skip
noncomputable def c2 : Code := match c0 with | .seq _ x => x | _ => .skip
noncomputable def c3 : Code := match c2 with | .seq x _ => x | _ => .skip
noncomputable def c4 : Code := match c2 with | .seq _ x => x | _ => .skip
noncomputable def c5 : Code := match c4 with | .seq x _ => x | _ => .skip
noncomputable def c6 : Code := match c4 with | .seq _ x => x | _ => .skip
noncomputable def c7 : Code := match c6 with | .seq x _ => x | _ => .skip
noncomputable def c8 : Code := match c7 with | .seq x _ => x | _ => .skip
noncomputable def c9 : Code := match c7 with | .seq _ x => x | _ => .skip
noncomputable def c10 : Code := match c9 with | .cond _ x _ => x | _ => .skip
noncomputable def c11 : Code := match c10 with | .seq x _ => x | _ => .skip
noncomputable def c12 : Code := match c10 with | .seq _ x => x | _ => .skip
noncomputable def c13 : Code := match c9 with | .cond _ _ x => x | _ => .skip
noncomputable def c14 : Code := match c6 with | .seq _ x => x | _ => .skip
noncomputable def c15 : Code := match c14 with | .seq x _ => x | _ => .skip
noncomputable def c16 : Code := match c15 with | .seq x _ => x | _ => .skip
noncomputable def c17 : Code := match c15 with | .seq _ x => x | _ => .skip
noncomputable def c18 : Code := match c17 with | .cond _ x _ => x | _ => .skip
noncomputable def c19 : Code := match c18 with | .seq x _ => x | _ => .skip
noncomputable def c20 : Code := match c18 with | .seq _ x => x | _ => .skip
noncomputable def c21 : Code := match c17 with | .cond _ _ x => x | _ => .skip
noncomputable def c22 : Code := match c14 with | .seq _ x => x | _ => .skip
noncomputable def c23 : Code := match c22 with | .seq x _ => x | _ => .skip
noncomputable def c24 : Code := match c22 with | .seq _ x => x | _ => .skip
theorem e0 : c0 = .seq c1 c2 := by kernel_rfl
noncomputable def r1 : Array Oper := match c1 with | .region _ x _ => x | _ => #[]
theorem e1 : c1 = .region 0 r1 false := by kernel_rfl
theorem e2 : c2 = .seq c3 c4 := by kernel_rfl
noncomputable def r3 : Array Oper := match c3 with | .region _ x _ => x | _ => #[]
theorem e3 : c3 = .region 1 r3 false := by kernel_rfl
theorem e4 : c4 = .seq c5 c6 := by kernel_rfl
noncomputable def r5 : Array Oper := match c5 with | .region _ x _ => x | _ => #[]
theorem e5 : c5 = .region 2 r5 false := by kernel_rfl
theorem e6 : c6 = .seq c7 c14 := by kernel_rfl
theorem e7 : c7 = .seq c8 c9 := by kernel_rfl
noncomputable def r8 : Array Oper := match c8 with | .region _ x _ => x | _ => #[]
theorem e8 : c8 = .region 3 r8 false := by kernel_rfl
theorem e9 : c9 = .cond (.tmp 13) c10 c13 := by kernel_rfl
theorem e10 : c10 = .seq c11 c12 := by kernel_rfl
noncomputable def r11 : Array Oper := match c11 with | .region _ x _ => x | _ => #[]
theorem e11 : c11 = .region 4 r11 false := by kernel_rfl
theorem e12 : c12 = .ret := by kernel_rfl
theorem e13 : c13 = .skip := by kernel_rfl
theorem e14 : c14 = .seq c15 c22 := by kernel_rfl
theorem e15 : c15 = .seq c16 c17 := by kernel_rfl
noncomputable def r16 : Array Oper := match c16 with | .region _ x _ => x | _ => #[]
theorem e16 : c16 = .region 5 r16 false := by kernel_rfl
theorem e17 : c17 = .cond (.tmp 16) c18 c21 := by kernel_rfl
theorem e18 : c18 = .seq c19 c20 := by kernel_rfl
noncomputable def r19 : Array Oper := match c19 with | .region _ x _ => x | _ => #[]
theorem e19 : c19 = .region 6 r19 false := by kernel_rfl
theorem e20 : c20 = .ret := by kernel_rfl
theorem e21 : c21 = .skip := by kernel_rfl
theorem e22 : c22 = .seq c23 c24 := by kernel_rfl
noncomputable def r23 : Array Oper := match c23 with | .region _ x _ => x | _ => #[]
theorem e23 : c23 = .region 7 r23 false := by kernel_rfl
theorem e24 : c24 = .ret := by kernel_rfl
theorem body : Try.f17.body = some c0 := by kernel_rfl
section
variable {base : Nat} {W0 : World} {β0 : Bt}
def f (k : Nat) (x0 : (List UInt8)) (x1 : (List UInt8)) (S : HS) : Option ((Int) × HS) :=
  (Option.bind (rollcallref01_Text.f k x0 S) fun p1 =>
  (Option.bind (rollcallref01_Text.f k x1 p1.2) fun p2 =>
  (if (slt p1.1 p2.1) = true then
  some ((-1), p2.2) else
  (if (!(slt p1.1 p2.1 || decide (p1.1 = p2.1))) = true then
  some (1, p2.2) else
  some (0, p2.2)))))
theorem snd {k : Nat} {x0 : (List UInt8)} {x1 : (List UInt8)} {S : HS}  {p : (Int) × HS} (h : f k x0 x1 S = some p) : HCall Try.prog base W0 β0 17 [(.str x0), (.str x1)] S (fun v S1 => v = (.int .i64 p.1) ∧ S1 = p.2) := by
  unfold f at h
  refine HCall.of_run at_.at_ body ?_
  show HRun Try.prog base W0 β0 17 none [.code c0] ⟨[(.str x0), (.str x1), .tup [], .tup [], .tup [], .tup [], .tup [], .tup [], .tup [], .tup [], .tup [], .tup [], .tup [], .tup [], .tup [], .tup [], .tup []], []⟩ S _
  refine q_seq e0 ?_
  refine q_region e1 rfl ?_
  refine q_op (dst := some 4) rfl (fun _ ho => ok_assign ho (.int _ _)) ?_
  refine hr_region_end ?_
  try simp only [HAct.put, List.set_cons_zero, List.set_cons_succ]
  refine q_seq e2 ?_
  refine q_region e3 rfl ?_
  refine q_op (dst := some 7) rfl (fun _ ho => ok_move ho (.tmp rfl)) ?_
  obtain ⟨p1, hp1, h⟩ := bindo h
  refine q_call (dst := some 8) rfl (.func _) (.cons (.tmp rfl) Evs.nil) (HInv.static rollcallref01_Text.at_ rollcallref01_Text.body (rollcallref01_Text.snd  hp1)) ?_
  rintro _ _ ⟨rfl, rfl⟩
  refine q_op (dst := some 5) rfl (fun _ ho => ok_assign ho (.tmp rfl)) ?_
  refine hr_region_end ?_
  try simp only [HAct.put, List.set_cons_zero, List.set_cons_succ]
  refine q_seq e4 ?_
  refine q_region e5 rfl ?_
  refine q_op (dst := some 9) rfl (fun _ ho => ok_move ho (.tmp rfl)) ?_
  obtain ⟨p2, hp2, h⟩ := bindo h
  refine q_call (dst := some 10) rfl (.func _) (.cons (.tmp rfl) Evs.nil) (HInv.static rollcallref01_Text.at_ rollcallref01_Text.body (rollcallref01_Text.snd  hp2)) ?_
  rintro _ _ ⟨rfl, rfl⟩
  refine q_op (dst := some 6) rfl (fun _ ho => ok_assign ho (.tmp rfl)) ?_
  refine hr_region_end ?_
  try simp only [HAct.put, List.set_cons_zero, List.set_cons_succ]
  refine q_seq e6 ?_
  refine q_seq e7 ?_
  refine q_region e8 rfl ?_
  refine q_op (dst := some 11) rfl (fun _ ho => ok_move ho (.tmp rfl)) ?_
  refine q_op (dst := some 12) rfl (fun _ ho => ok_move ho (.tmp rfl)) ?_
  refine q_op (dst := some 13) rfl (fun _ ho => ok_sbin ho (.tmp rfl) (.tmp rfl) rfl) ?_
  refine hr_region_end ?_
  try simp only [HAct.put, List.set_cons_zero, List.set_cons_succ]
  rcases ifc h with ⟨hc3, h⟩ | ⟨hc3, h⟩
  · refine q_cond_t e9 (.tmp rfl) hc3 ?_
    refine q_seq e10 ?_
    refine q_region e11 rfl ?_
    refine q_op (dst := some 4) rfl (fun _ ho => ok_assign ho (.int _ _)) ?_
    refine hr_region_end ?_
    try simp only [HAct.put, List.set_cons_zero, List.set_cons_succ]
    cases h
    exact q_ret e12 at_.at_ rfl (res1 rfl rfl) ⟨rfl, rfl⟩
  · refine q_cond_f e9 (.tmp rfl) (bfalse hc3) ?_
    refine q_skipc e13 ?_
    refine q_seq e14 ?_
    refine q_seq e15 ?_
    refine q_region e16 rfl ?_
    refine q_op (dst := some 14) rfl (fun _ ho => ok_move ho (.tmp rfl)) ?_
    refine q_op (dst := some 15) rfl (fun _ ho => ok_move ho (.tmp rfl)) ?_
    refine q_op (dst := some 16) rfl (fun _ ho => ok_sbin ho (.tmp rfl) (.tmp rfl) rfl) ?_
    refine hr_region_end ?_
    try simp only [HAct.put, List.set_cons_zero, List.set_cons_succ]
    rcases ifc h with ⟨hc4, h⟩ | ⟨hc4, h⟩
    · refine q_cond_t e17 (.tmp rfl) hc4 ?_
      refine q_seq e18 ?_
      refine q_region e19 rfl ?_
      refine q_op (dst := some 4) rfl (fun _ ho => ok_assign ho (.int _ _)) ?_
      refine hr_region_end ?_
      try simp only [HAct.put, List.set_cons_zero, List.set_cons_succ]
      cases h
      exact q_ret e20 at_.at_ rfl (res1 rfl rfl) ⟨rfl, rfl⟩
    · refine q_cond_f e17 (.tmp rfl) (bfalse hc4) ?_
      refine q_skipc e21 ?_
      refine q_seq e22 ?_
      refine q_region e23 rfl ?_
      refine q_op (dst := some 4) rfl (fun _ ho => ok_assign ho (.int _ _)) ?_
      refine hr_region_end ?_
      try simp only [HAct.put, List.set_cons_zero, List.set_cons_succ]
      cases h
      exact q_ret e24 at_.at_ rfl (res1 rfl rfl) ⟨rfl, rfl⟩
end
end rollcallref01_Compare
namespace fold_Prefix
abbrev id : Nat := 18
theorem at_ : FnAt Try.prog 18 Try.f18 := ⟨Try.func18, by kernel_rfl⟩
noncomputable def c0 : Code := (Try.f18.body).getD .skip
noncomputable def c1 : Code := match c0 with | .seq x _ => x | _ => .skip
noncomputable def c2 : Code := match c0 with | .seq _ x => x | _ => .skip
noncomputable def c3 : Code := match c2 with | .seq x _ => x | _ => .skip
noncomputable def c4 : Code := match c2 with | .seq _ x => x | _ => .skip
theorem e0 : c0 = .seq c1 c2 := by kernel_rfl
noncomputable def r1 : Array Oper := match c1 with | .region _ x _ => x | _ => #[]
theorem e1 : c1 = .region 0 r1 false := by kernel_rfl
theorem e2 : c2 = .seq c3 c4 := by kernel_rfl
noncomputable def r3 : Array Oper := match c3 with | .region _ x _ => x | _ => #[]
theorem e3 : c3 = .region 1 r3 false := by kernel_rfl
theorem e4 : c4 = .ret := by kernel_rfl
theorem body : Try.f18.body = some c0 := by kernel_rfl
section
variable {base : Nat} {W0 : World} {β0 : Bt}
def J0 (k : Nat) (y17 : Bool) : Option (Bool) :=
  some y17
theorem J0_snd {k : Nat}  {y17 : Bool} {S : HS} {p : Bool} {g0 g1 g2 g3 g4 g5 g6 g7 g8 g9 g10 g11 g12 g13 g14 g15 g16 : HV} (h : J0 k y17 = some p) : HRun Try.prog base W0 β0 18 none [.inRegion r3 [13], .code c4] ⟨[g0, g1, g2, g3, g4, g5, g6, g7, g8, g9, g10, g11, g12, g13, g14, g15, g16, (.bool y17)], []⟩ S (fun v S1 => v = (.bool p) ∧ S1 = S) := by
  unfold J0 at h
  refine q_op (dst := some 4) rfl (fun _ ho => ok_assign ho (.tmp rfl)) ?_
  refine hr_region_end ?_
  try simp only [HAct.put, List.set_cons_zero, List.set_cons_succ]
  cases h
  exact q_ret e4 at_.at_ rfl (res1 rfl rfl) ⟨rfl, rfl⟩
def f (k : Nat) (x0 : (List UInt8)) (x1 : (List UInt8)) : Option (Bool) :=
  (if (List.length x0 : Int) ≥ (List.length x1 : Int) then
  (if 0 ≤ (0 : Int) ∧ (0 : Int) ≤ (List.length x1 : Int) ∧ ((List.length x1 : Int) : Int) ≤ (List.length x0 : Int) then
  (Option.bind (fold_Same.f k (ssub x0 0 (List.length x1 : Int)) x1) fun p3 =>
  J0 k p3) else none) else
  J0 k false)
theorem snd {k : Nat} {x0 : (List UInt8)} {x1 : (List UInt8)} {S : HS}  {p : Bool} (h : f k x0 x1 = some p) : HCall Try.prog base W0 β0 18 [(.str x0), (.str x1)] S (fun v S1 => v = (.bool p) ∧ S1 = S) := by
  unfold f at h
  refine HCall.of_run at_.at_ body ?_
  show HRun Try.prog base W0 β0 18 none [.code c0] ⟨[(.str x0), (.str x1), .tup [], .tup [], .tup [], .tup [], .tup [], .tup [], .tup [], .tup [], .tup [], .tup [], .tup [], .tup [], .tup [], .tup [], .tup [], .tup []], []⟩ S _
  refine q_seq e0 ?_
  refine q_region e1 rfl ?_
  refine q_op (dst := some 4) rfl (fun _ ho => ok_assign ho (.bool _)) ?_
  refine hr_region_end ?_
  try simp only [HAct.put, List.set_cons_zero, List.set_cons_succ]
  refine q_seq e2 ?_
  refine q_region e3 rfl ?_
  refine q_op (dst := some 5) rfl (fun _ ho => ok_move ho (.tmp rfl)) ?_
  refine q_op (dst := some 6) rfl (fun _ ho => ok_len_str ho rfl tu9 (.tmp rfl)) ?_
  refine q_op (dst := some 7) rfl (fun _ ho => ok_move ho (.tmp rfl)) ?_
  refine q_op (dst := some 8) rfl (fun _ ho => ok_len_str ho rfl tu9 (.tmp rfl)) ?_
  try simp only [HAct.put, List.set_cons_zero, List.set_cons_succ]
  refine q_op (dst := some 9) rfl (fun _ ho => ok_ibin ho (.tmp rfl) (.tmp rfl) rfl) ?_
  refine q_op (dst := some 10) rfl (fun _ ho => ok_move ho (.tmp rfl)) ?_
  rcases ifc h with ⟨hc1, h⟩ | ⟨hc1, h⟩
  · refine q_op_g (t := 10) (dst := some 11) rfl rfl rfl (decide_eq_true hc1) (fun _ ho => ok_move ho (.tmp rfl)) ?_
    refine q_op_g (t := 10) (dst := some 12) rfl rfl rfl (decide_eq_true hc1) (fun _ ho => ok_move ho (.tmp rfl)) ?_
    try simp only [HAct.put, List.set_cons_zero, List.set_cons_succ]
    refine q_op_g (t := 10) (dst := some 13) rfl rfl rfl (decide_eq_true hc1) (fun _ ho => ok_len_str ho rfl tu9 (.tmp rfl)) ?_
    obtain ⟨hg2, h⟩ := gd h
    refine q_op_g (t := 10) (dst := some 14) rfl rfl rfl (decide_eq_true hc1) (fun _ ho => ok_slice_str (kl := .i64) (kh := .i64) (l := 0) (h := (List.length x1 : Int)) ho tu9 (.tmp rfl) (.inl ⟨rfl, rfl⟩) (.inr ⟨_, rfl, (.tmp rfl)⟩) hg2.1 hg2.2.1 hg2.2.2) ?_
    refine q_op_g (t := 10) (dst := some 15) rfl rfl rfl (decide_eq_true hc1) (fun _ ho => ok_move ho (.tmp rfl)) ?_
    obtain ⟨p3, hp3, h⟩ := bindo h
    refine q_call_g (t := 10) (dst := some 16) rfl rfl rfl (decide_eq_true hc1) (.func _) (.cons (.tmp rfl) (.cons (.tmp rfl) Evs.nil)) (HInv.static fold_Same.at_ fold_Same.body (fold_Same.snd  hp3)) ?_
    rintro _ _ ⟨rfl, rfl⟩
    try simp only [HAct.put, List.set_cons_zero, List.set_cons_succ]
    refine q_op (dst := some 17) rfl (fun _ ho => ok_pick_tt ho (.tmp rfl) (decide_eq_true hc1) (.tmp rfl)) ?_
    try simp only [HAct.put, List.set_cons_zero, List.set_cons_succ]
    exact J0_snd  h
  · refine q_skip (dst := some 11) (t := 10) rfl rfl rfl (decide_eq_false hc1) ?_
    refine q_skip (dst := some 12) (t := 10) rfl rfl rfl (decide_eq_false hc1) ?_
    try simp only [HAct.put, List.set_cons_zero, List.set_cons_succ]
    refine q_skip (dst := some 13) (t := 10) rfl rfl rfl (decide_eq_false hc1) ?_
    refine q_skip (dst := some 14) (t := 10) rfl rfl rfl (decide_eq_false hc1) ?_
    refine q_skip (dst := some 15) (t := 10) rfl rfl rfl (decide_eq_false hc1) ?_
    refine q_skip (dst := some 16) (t := 10) rfl rfl rfl (decide_eq_false hc1) ?_
    try simp only [HAct.put, List.set_cons_zero, List.set_cons_succ]
    refine q_op (dst := some 17) rfl (fun _ ho => ok_pick_ff ho (.tmp rfl) (decide_eq_false hc1) (.bool _)) ?_
    try simp only [HAct.put, List.set_cons_zero, List.set_cons_succ]
    exact J0_snd  h
end
end fold_Prefix
namespace rollcalllaw01_FoldCompares
abbrev id : Nat := 6
theorem at_ : FnAt Try.prog 6 Try.f6 := ⟨Try.func6, by kernel_rfl⟩
noncomputable def c0 : Code := (Try.f6.body).getD .skip
noncomputable def c1 : Code := match c0 with | .seq x _ => x | _ => .skip
noncomputable def c2 : Code := match c0 with | .seq _ x => x | _ => .skip
noncomputable def c3 : Code := match c2 with | .seq x _ => x | _ => .skip
noncomputable def c4 : Code := match c3 with | .seq x _ => x | _ => .skip
noncomputable def c5 : Code := match c3 with | .seq _ x => x | _ => .skip
noncomputable def c6 : Code := match c5 with | .cond _ x _ => x | _ => .skip
noncomputable def c7 : Code := match c6 with | .seq x _ => x | _ => .skip
noncomputable def c8 : Code := match c6 with | .seq _ x => x | _ => .skip
noncomputable def c9 : Code := match c5 with | .cond _ _ x => x | _ => .skip
noncomputable def c10 : Code := match c2 with | .seq _ x => x | _ => .skip
noncomputable def c11 : Code := match c10 with | .seq x _ => x | _ => .skip
noncomputable def c12 : Code := match c11 with | .seq x _ => x | _ => .skip
noncomputable def c13 : Code := match c11 with | .seq _ x => x | _ => .skip
noncomputable def c14 : Code := match c13 with | .cond _ x _ => x | _ => .skip
noncomputable def c15 : Code := match c14 with | .seq x _ => x | _ => .skip
noncomputable def c16 : Code := match c14 with | .seq _ x => x | _ => .skip
noncomputable def c17 : Code := match c13 with | .cond _ _ x => x | _ => .skip
noncomputable def c18 : Code := match c10 with | .seq _ x => x | _ => .skip
noncomputable def c19 : Code := match c18 with | .seq x _ => x | _ => .skip
noncomputable def c20 : Code := match c18 with | .seq _ x => x | _ => .skip
noncomputable def c21 : Code := match c20 with | .seq x _ => x | _ => .skip
noncomputable def c22 : Code := match c20 with | .seq _ x => x | _ => .skip
theorem e0 : c0 = .seq c1 c2 := by kernel_rfl
noncomputable def r1 : Array Oper := match c1 with | .region _ x _ => x | _ => #[]
theorem e1 : c1 = .region 0 r1 false := by kernel_rfl
theorem e2 : c2 = .seq c3 c10 := by kernel_rfl
theorem e3 : c3 = .seq c4 c5 := by kernel_rfl
noncomputable def r4 : Array Oper := match c4 with | .region _ x _ => x | _ => #[]
theorem e4 : c4 = .region 1 r4 false := by kernel_rfl
theorem e5 : c5 = .cond (.tmp 7) c6 c9 := by kernel_rfl
theorem e6 : c6 = .seq c7 c8 := by kernel_rfl
noncomputable def r7 : Array Oper := match c7 with | .region _ x _ => x | _ => #[]
theorem e7 : c7 = .region 2 r7 false := by kernel_rfl
theorem e8 : c8 = .ret := by kernel_rfl
theorem e9 : c9 = .skip := by kernel_rfl
theorem e10 : c10 = .seq c11 c18 := by kernel_rfl
theorem e11 : c11 = .seq c12 c13 := by kernel_rfl
noncomputable def r12 : Array Oper := match c12 with | .region _ x _ => x | _ => #[]
theorem e12 : c12 = .region 3 r12 false := by kernel_rfl
theorem e13 : c13 = .cond (.tmp 15) c14 c17 := by kernel_rfl
theorem e14 : c14 = .seq c15 c16 := by kernel_rfl
noncomputable def r15 : Array Oper := match c15 with | .region _ x _ => x | _ => #[]
theorem e15 : c15 = .region 4 r15 false := by kernel_rfl
theorem e16 : c16 = .ret := by kernel_rfl
theorem e17 : c17 = .skip := by kernel_rfl
theorem e18 : c18 = .seq c19 c20 := by kernel_rfl
noncomputable def r19 : Array Oper := match c19 with | .region _ x _ => x | _ => #[]
theorem e19 : c19 = .region 5 r19 false := by kernel_rfl
theorem e20 : c20 = .seq c21 c22 := by kernel_rfl
noncomputable def r21 : Array Oper := match c21 with | .region _ x _ => x | _ => #[]
theorem e21 : c21 = .region 6 r21 false := by kernel_rfl
theorem e22 : c22 = .ret := by kernel_rfl
theorem body : Try.f6.body = some c0 := by kernel_rfl
section
variable {base : Nat} {W0 : World} {β0 : Bt}
def J3 (k : Nat) (y54 : Bool) (S : HS) : Option ((Bool) × HS) :=
  some (y54, S)
theorem J3_snd {k : Nat}  {y54 : Bool} {S : HS} {p : (Bool) × HS} {g0 g1 g2 g3 g4 g5 g6 g7 g8 g9 g10 g11 g12 g13 g14 g15 g16 g17 g18 g19 g20 g21 g22 g23 g24 g25 g26 g27 g28 g29 g30 g31 g32 g33 g34 g35 g36 g37 g38 g39 g40 g41 g42 g43 g44 g45 g46 g47 g48 g49 g50 g51 g52 g53 : HV} (h : J3 k y54 S = some p) : HRun Try.prog base W0 β0 6 none [.inRegion r21 [23], .code c22] ⟨[g0, g1, g2, g3, g4, g5, g6, g7, g8, g9, g10, g11, g12, g13, g14, g15, g16, g17, g18, g19, g20, g21, g22, g23, g24, g25, g26, g27, g28, g29, g30, g31, g32, g33, g34, g35, g36, g37, g38, g39, g40, g41, g42, g43, g44, g45, g46, g47, g48, g49, g50, g51, g52, g53, (.bool y54)], []⟩ S (fun v S1 => v = (.bool p.1) ∧ S1 = p.2) := by
  unfold J3 at h
  refine q_op (dst := some 4) rfl (fun _ ho => ok_assign ho (.tmp rfl)) ?_
  refine hr_region_end ?_
  try simp only [HAct.put, List.set_cons_zero, List.set_cons_succ]
  cases h
  exact q_ret e22 at_.at_ rfl (res1 rfl rfl) ⟨rfl, rfl⟩
def J2 (k : Nat) (y0 : (List UInt8)) (y1 : (List UInt8)) (y5 : Bool) (y47 : Bool) (S : HS) : Option ((Bool) × HS) :=
  (if y47 = true then
  (Option.bind (fold_Prefix.f k y0 y1) fun p14 =>
  J3 k (p14 == y5) S) else
  J3 k false S)
theorem J2_snd {k : Nat}  {y0 : (List UInt8)} {y1 : (List UInt8)} {y5 : Bool} {y47 : Bool} {S : HS} {p : (Bool) × HS} {g2 g3 g4 g6 g7 g8 g9 g10 g11 g12 g13 g14 g15 g16 g17 g18 g19 g20 g21 g22 g23 g24 g25 g26 g27 g28 g29 g30 g31 g32 g33 g34 g35 g36 g37 g38 g39 g40 g41 g42 g43 g44 g45 g46 g48 g49 g50 g51 g52 g53 g54 : HV} (h : J2 k y0 y1 y5 y47 S = some p) : HRun Try.prog base W0 β0 6 none [.inRegion r21 [16, 17, 18, 19, 20, 21, 22, 23], .code c22] ⟨[(.str y0), (.str y1), g2, g3, g4, (.bool y5), g6, g7, g8, g9, g10, g11, g12, g13, g14, g15, g16, g17, g18, g19, g20, g21, g22, g23, g24, g25, g26, g27, g28, g29, g30, g31, g32, g33, g34, g35, g36, g37, g38, g39, g40, g41, g42, g43, g44, g45, g46, (.bool y47), g48, g49, g50, g51, g52, g53, g54], []⟩ S (fun v S1 => v = (.bool p.1) ∧ S1 = p.2) := by
  unfold J2 at h
  refine q_op (dst := some 48) rfl (fun _ ho => ok_move ho (.tmp rfl)) ?_
  rcases ifc h with ⟨hc13, h⟩ | ⟨hc13, h⟩
  · refine q_op_g (t := 48) (dst := some 49) rfl rfl rfl hc13 (fun _ ho => ok_move ho (.tmp rfl)) ?_
    refine q_op_g (t := 48) (dst := some 50) rfl rfl rfl hc13 (fun _ ho => ok_move ho (.tmp rfl)) ?_
    obtain ⟨p14, hp14, h⟩ := bindo h
    refine q_call_g (t := 48) (dst := some 51) rfl rfl rfl hc13 (.func _) (.cons (.tmp rfl) (.cons (.tmp rfl) Evs.nil)) (HInv.static fold_Prefix.at_ fold_Prefix.body (fold_Prefix.snd  hp14)) ?_
    rintro _ _ ⟨rfl, rfl⟩
    try simp only [HAct.put, List.set_cons_zero, List.set_cons_succ]
    refine q_op_g (t := 48) (dst := some 52) rfl rfl rfl hc13 (fun _ ho => ok_move ho (.tmp rfl)) ?_
    refine q_op_g (t := 48) (dst := some 53) rfl rfl rfl hc13 (fun _ ho => ok_beq ho tu4 (.inl ⟨rfl, rfl⟩) (.tmp rfl) (.tmp rfl)) ?_
    refine q_op (dst := some 54) rfl (fun _ ho => ok_pick_tt ho (.tmp rfl) hc13 (.tmp rfl)) ?_
    try simp only [HAct.put, List.set_cons_zero, List.set_cons_succ]
    exact J3_snd  h
  · refine q_skip (dst := some 49) (t := 48) rfl rfl rfl (bfalse hc13) ?_
    refine q_skip (dst := some 50) (t := 48) rfl rfl rfl (bfalse hc13) ?_
    refine q_skip (dst := some 51) (t := 48) rfl rfl rfl (bfalse hc13) ?_
    try simp only [HAct.put, List.set_cons_zero, List.set_cons_succ]
    refine q_skip (dst := some 52) (t := 48) rfl rfl rfl (bfalse hc13) ?_
    refine q_skip (dst := some 53) (t := 48) rfl rfl rfl (bfalse hc13) ?_
    refine q_op (dst := some 54) rfl (fun _ ho => ok_pick_ff ho (.tmp rfl) (bfalse hc13) (.bool _)) ?_
    try simp only [HAct.put, List.set_cons_zero, List.set_cons_succ]
    exact J3_snd  h
def J1 (k : Nat) (y0 : (List UInt8)) (y1 : (List UInt8)) (y31 : Bool) (S : HS) : Option ((Bool) × HS) :=
  (Option.bind (fold_Compare.f k y0 y1) fun p8 =>
  (Option.bind (rollcallref01_Compare.f k y0 y1 S) fun p9 =>
  (if p8 = p9.1 then
  (Option.bind (fold_Same.f k y0 y1) fun p11 =>
  (Option.bind (rollcallref01_Same.f k y0 y1 p9.2) fun p12 =>
  J2 k y0 y1 y31 (p11 == p12.1) p12.2)) else
  J2 k y0 y1 y31 false p9.2)))
theorem J1_snd {k : Nat}  {y0 : (List UInt8)} {y1 : (List UInt8)} {y31 : Bool} {S : HS} {p : (Bool) × HS} {g2 g3 g4 g5 g6 g7 g8 g9 g10 g11 g12 g13 g14 g15 g16 g17 g18 g19 g20 g21 g22 g23 g24 g25 g26 g27 g28 g29 g30 g32 g33 g34 g35 g36 g37 g38 g39 g40 g41 g42 g43 g44 g45 g46 g47 g48 g49 g50 g51 g52 g53 g54 : HV} (h : J1 k y0 y1 y31 S = some p) : HRun Try.prog base W0 β0 6 none [.inRegion r19 [16], .code c20] ⟨[(.str y0), (.str y1), g2, g3, g4, g5, g6, g7, g8, g9, g10, g11, g12, g13, g14, g15, g16, g17, g18, g19, g20, g21, g22, g23, g24, g25, g26, g27, g28, g29, g30, (.bool y31), g32, g33, g34, g35, g36, g37, g38, g39, g40, g41, g42, g43, g44, g45, g46, g47, g48, g49, g50, g51, g52, g53, g54], []⟩ S (fun v S1 => v = (.bool p.1) ∧ S1 = p.2) := by
  unfold J1 at h
  refine q_op (dst := some 5) rfl (fun _ ho => ok_assign ho (.tmp rfl)) ?_
  refine hr_region_end ?_
  try simp only [HAct.put, List.set_cons_zero, List.set_cons_succ]
  refine q_seq e20 ?_
  refine q_region e21 rfl ?_
  refine q_op (dst := some 32) rfl (fun _ ho => ok_move ho (.tmp rfl)) ?_
  refine q_op (dst := some 33) rfl (fun _ ho => ok_move ho (.tmp rfl)) ?_
  obtain ⟨p8, hp8, h⟩ := bindo h
  refine q_call (dst := some 34) rfl (.func _) (.cons (.tmp rfl) (.cons (.tmp rfl) Evs.nil)) (HInv.static fold_Compare.at_ fold_Compare.body (fold_Compare.snd  hp8)) ?_
  rintro _ _ ⟨rfl, rfl⟩
  refine q_op (dst := some 35) rfl (fun _ ho => ok_move ho (.tmp rfl)) ?_
  try simp only [HAct.put, List.set_cons_zero, List.set_cons_succ]
  refine q_op (dst := some 36) rfl (fun _ ho => ok_move ho (.tmp rfl)) ?_
  obtain ⟨p9, hp9, h⟩ := bindo h
  refine q_call (dst := some 37) rfl (.func _) (.cons (.tmp rfl) (.cons (.tmp rfl) Evs.nil)) (HInv.static rollcallref01_Compare.at_ rollcallref01_Compare.body (rollcallref01_Compare.snd  hp9)) ?_
  rintro _ _ ⟨rfl, rfl⟩
  refine q_op (dst := some 38) rfl (fun _ ho => ok_ibin ho (.tmp rfl) (.tmp rfl) rfl) ?_
  refine q_op (dst := some 39) rfl (fun _ ho => ok_move ho (.tmp rfl)) ?_
  try simp only [HAct.put, List.set_cons_zero, List.set_cons_succ]
  rcases ifc h with ⟨hc10, h⟩ | ⟨hc10, h⟩
  · refine q_op_g (t := 39) (dst := some 40) rfl rfl rfl (decide_eq_true hc10) (fun _ ho => ok_move ho (.tmp rfl)) ?_
    refine q_op_g (t := 39) (dst := some 41) rfl rfl rfl (decide_eq_true hc10) (fun _ ho => ok_move ho (.tmp rfl)) ?_
    obtain ⟨p11, hp11, h⟩ := bindo h
    refine q_call_g (t := 39) (dst := some 42) rfl rfl rfl (decide_eq_true hc10) (.func _) (.cons (.tmp rfl) (.cons (.tmp rfl) Evs.nil)) (HInv.static fold_Same.at_ fold_Same.body (fold_Same.snd  hp11)) ?_
    rintro _ _ ⟨rfl, rfl⟩
    refine q_op_g (t := 39) (dst := some 43) rfl rfl rfl (decide_eq_true hc10) (fun _ ho => ok_move ho (.tmp rfl)) ?_
    try simp only [HAct.put, List.set_cons_zero, List.set_cons_succ]
    refine q_op_g (t := 39) (dst := some 44) rfl rfl rfl (decide_eq_true hc10) (fun _ ho => ok_move ho (.tmp rfl)) ?_
    obtain ⟨p12, hp12, h⟩ := bindo h
    refine q_call_g (t := 39) (dst := some 45) rfl rfl rfl (decide_eq_true hc10) (.func _) (.cons (.tmp rfl) (.cons (.tmp rfl) Evs.nil)) (HInv.static rollcallref01_Same.at_ rollcallref01_Same.body (rollcallref01_Same.snd  hp12)) ?_
    rintro _ _ ⟨rfl, rfl⟩
    refine q_op_g (t := 39) (dst := some 46) rfl rfl rfl (decide_eq_true hc10) (fun _ ho => ok_beq ho tu4 (.inl ⟨rfl, rfl⟩) (.tmp rfl) (.tmp rfl)) ?_
    refine q_op (dst := some 47) rfl (fun _ ho => ok_pick_tt ho (.tmp rfl) (decide_eq_true hc10) (.tmp rfl)) ?_
    try simp only [HAct.put, List.set_cons_zero, List.set_cons_succ]
    try simp only [HAct.put, List.set_cons_zero, List.set_cons_succ]
    exact J2_snd  h
  · refine q_skip (dst := some 40) (t := 39) rfl rfl rfl (decide_eq_false hc10) ?_
    refine q_skip (dst := some 41) (t := 39) rfl rfl rfl (decide_eq_false hc10) ?_
    refine q_skip (dst := some 42) (t := 39) rfl rfl rfl (decide_eq_false hc10) ?_
    refine q_skip (dst := some 43) (t := 39) rfl rfl rfl (decide_eq_false hc10) ?_
    try simp only [HAct.put, List.set_cons_zero, List.set_cons_succ]
    refine q_skip (dst := some 44) (t := 39) rfl rfl rfl (decide_eq_false hc10) ?_
    refine q_skip (dst := some 45) (t := 39) rfl rfl rfl (decide_eq_false hc10) ?_
    refine q_skip (dst := some 46) (t := 39) rfl rfl rfl (decide_eq_false hc10) ?_
    refine q_op (dst := some 47) rfl (fun _ ho => ok_pick_ff ho (.tmp rfl) (decide_eq_false hc10) (.bool _)) ?_
    try simp only [HAct.put, List.set_cons_zero, List.set_cons_succ]
    try simp only [HAct.put, List.set_cons_zero, List.set_cons_succ]
    exact J2_snd  h
def J0 (k : Nat) (y0 : (List UInt8)) (y1 : (List UInt8)) (y15 : Bool) (S : HS) : Option ((Bool) × HS) :=
  (if y15 = true then
  some (true, S) else
  (if (List.length y0 : Int) ≥ (List.length y1 : Int) then
  (if 0 ≤ (0 : Int) ∧ (0 : Int) ≤ (mn (List.length y0 : Int) (List.length y1 : Int)) ∧ ((mn (List.length y0 : Int) (List.length y1 : Int)) : Int) ≤ (List.length y0 : Int) then
  (Option.bind (rollcallref01_Same.f k (ssub y0 0 (mn (List.length y0 : Int) (List.length y1 : Int))) y1 S) fun p7 =>
  J1 k y0 y1 p7.1 p7.2) else none) else
  J1 k y0 y1 false S))
theorem J0_snd {k : Nat}  {y0 : (List UInt8)} {y1 : (List UInt8)} {y15 : Bool} {S : HS} {p : (Bool) × HS} {g2 g3 g4 g5 g6 g7 g8 g9 g10 g11 g12 g13 g14 g16 g17 g18 g19 g20 g21 g22 g23 g24 g25 g26 g27 g28 g29 g30 g31 g32 g33 g34 g35 g36 g37 g38 g39 g40 g41 g42 g43 g44 g45 g46 g47 g48 g49 g50 g51 g52 g53 g54 : HV} (h : J0 k y0 y1 y15 S = some p) : HRun Try.prog base W0 β0 6 none [.code c13, .code c18] ⟨[(.str y0), (.str y1), g2, g3, g4, g5, g6, g7, g8, g9, g10, g11, g12, g13, g14, (.bool y15), g16, g17, g18, g19, g20, g21, g22, g23, g24, g25, g26, g27, g28, g29, g30, g31, g32, g33, g34, g35, g36, g37, g38, g39, g40, g41, g42, g43, g44, g45, g46, g47, g48, g49, g50, g51, g52, g53, g54], []⟩ S (fun v S1 => v = (.bool p.1) ∧ S1 = p.2) := by
  unfold J0 at h
  rcases ifc h with ⟨hc4, h⟩ | ⟨hc4, h⟩
  · refine q_cond_t e13 (.tmp rfl) hc4 ?_
    refine q_seq e14 ?_
    refine q_region e15 rfl ?_
    refine q_op (dst := some 4) rfl (fun _ ho => ok_assign ho (.bool _)) ?_
    refine hr_region_end ?_
    try simp only [HAct.put, List.set_cons_zero, List.set_cons_succ]
    cases h
    exact q_ret e16 at_.at_ rfl (res1 rfl rfl) ⟨rfl, rfl⟩
  · refine q_cond_f e13 (.tmp rfl) (bfalse hc4) ?_
    refine q_skipc e17 ?_
    refine q_seq e18 ?_
    refine q_region e19 rfl ?_
    refine q_op (dst := some 16) rfl (fun _ ho => ok_move ho (.tmp rfl)) ?_
    refine q_op (dst := some 17) rfl (fun _ ho => ok_len_str ho rfl tu9 (.tmp rfl)) ?_
    refine q_op (dst := some 18) rfl (fun _ ho => ok_move ho (.tmp rfl)) ?_
    refine q_op (dst := some 19) rfl (fun _ ho => ok_len_str ho rfl tu9 (.tmp rfl)) ?_
    try simp only [HAct.put, List.set_cons_zero, List.set_cons_succ]
    refine q_op (dst := some 20) rfl (fun _ ho => ok_ibin ho (.tmp rfl) (.tmp rfl) rfl) ?_
    refine q_op (dst := some 21) rfl (fun _ ho => ok_move ho (.tmp rfl)) ?_
    rcases ifc h with ⟨hc5, h⟩ | ⟨hc5, h⟩
    · refine q_op_g (t := 21) (dst := some 22) rfl rfl rfl (decide_eq_true hc5) (fun _ ho => ok_move ho (.tmp rfl)) ?_
      refine q_op_g (t := 21) (dst := some 23) rfl rfl rfl (decide_eq_true hc5) (fun _ ho => ok_move ho (.tmp rfl)) ?_
      try simp only [HAct.put, List.set_cons_zero, List.set_cons_succ]
      refine q_op_g (t := 21) (dst := some 24) rfl rfl rfl (decide_eq_true hc5) (fun _ ho => ok_len_str ho rfl tu9 (.tmp rfl)) ?_
      refine q_op_g (t := 21) (dst := some 25) rfl rfl rfl (decide_eq_true hc5) (fun _ ho => ok_move ho (.tmp rfl)) ?_
      refine q_op_g (t := 21) (dst := some 26) rfl rfl rfl (decide_eq_true hc5) (fun _ ho => ok_len_str ho rfl tu9 (.tmp rfl)) ?_
      refine q_op_g (t := 21) (dst := some 27) rfl rfl rfl (decide_eq_true hc5) (fun _ ho => ok_min ho (.tmp rfl) (.tmp rfl)) ?_
      try simp only [HAct.put, List.set_cons_zero, List.set_cons_succ]
      obtain ⟨hg6, h⟩ := gd h
      refine q_op_g (t := 21) (dst := some 28) rfl rfl rfl (decide_eq_true hc5) (fun _ ho => ok_slice_str (kl := .i64) (kh := .i64) (l := 0) (h := (mn (List.length y0 : Int) (List.length y1 : Int))) ho tu9 (.tmp rfl) (.inl ⟨rfl, rfl⟩) (.inr ⟨_, rfl, (.tmp rfl)⟩) hg6.1 hg6.2.1 hg6.2.2) ?_
      refine q_op_g (t := 21) (dst := some 29) rfl rfl rfl (decide_eq_true hc5) (fun _ ho => ok_move ho (.tmp rfl)) ?_
      obtain ⟨p7, hp7, h⟩ := bindo h
      refine q_call_g (t := 21) (dst := some 30) rfl rfl rfl (decide_eq_true hc5) (.func _) (.cons (.tmp rfl) (.cons (.tmp rfl) Evs.nil)) (HInv.static rollcallref01_Same.at_ rollcallref01_Same.body (rollcallref01_Same.snd  hp7)) ?_
      rintro _ _ ⟨rfl, rfl⟩
      refine q_op (dst := some 31) rfl (fun _ ho => ok_pick_tt ho (.tmp rfl) (decide_eq_true hc5) (.tmp rfl)) ?_
      try simp only [HAct.put, List.set_cons_zero, List.set_cons_succ]
      try simp only [HAct.put, List.set_cons_zero, List.set_cons_succ]
      exact J1_snd  h
    · refine q_skip (dst := some 22) (t := 21) rfl rfl rfl (decide_eq_false hc5) ?_
      refine q_skip (dst := some 23) (t := 21) rfl rfl rfl (decide_eq_false hc5) ?_
      try simp only [HAct.put, List.set_cons_zero, List.set_cons_succ]
      refine q_skip (dst := some 24) (t := 21) rfl rfl rfl (decide_eq_false hc5) ?_
      refine q_skip (dst := some 25) (t := 21) rfl rfl rfl (decide_eq_false hc5) ?_
      refine q_skip (dst := some 26) (t := 21) rfl rfl rfl (decide_eq_false hc5) ?_
      refine q_skip (dst := some 27) (t := 21) rfl rfl rfl (decide_eq_false hc5) ?_
      try simp only [HAct.put, List.set_cons_zero, List.set_cons_succ]
      refine q_skip (dst := some 28) (t := 21) rfl rfl rfl (decide_eq_false hc5) ?_
      refine q_skip (dst := some 29) (t := 21) rfl rfl rfl (decide_eq_false hc5) ?_
      refine q_skip (dst := some 30) (t := 21) rfl rfl rfl (decide_eq_false hc5) ?_
      refine q_op (dst := some 31) rfl (fun _ ho => ok_pick_ff ho (.tmp rfl) (decide_eq_false hc5) (.bool _)) ?_
      try simp only [HAct.put, List.set_cons_zero, List.set_cons_succ]
      try simp only [HAct.put, List.set_cons_zero, List.set_cons_succ]
      exact J1_snd  h
def f (k : Nat) (x0 : (List UInt8)) (x1 : (List UInt8)) (S : HS) : Option ((Bool) × HS) :=
  (Option.bind (rollcalllaw01_awake.f k S) fun p1 =>
  (if (!p1.1) = true then
  some (false, p1.2) else
  (if (List.length x0 : Int) > 100 then
  J0 k x0 x1 true p1.2 else
  J0 k x0 x1 (decide ((List.length x1 : Int) > 100)) p1.2)))
theorem snd {k : Nat} {x0 : (List UInt8)} {x1 : (List UInt8)} {S : HS}  {p : (Bool) × HS} (h : f k x0 x1 S = some p) : HCall Try.prog base W0 β0 6 [(.str x0), (.str x1)] S (fun v S1 => v = (.bool p.1) ∧ S1 = p.2) := by
  unfold f at h
  refine HCall.of_run at_.at_ body ?_
  show HRun Try.prog base W0 β0 6 none [.code c0] ⟨[(.str x0), (.str x1), .tup [], .tup [], .tup [], .tup [], .tup [], .tup [], .tup [], .tup [], .tup [], .tup [], .tup [], .tup [], .tup [], .tup [], .tup [], .tup [], .tup [], .tup [], .tup [], .tup [], .tup [], .tup [], .tup [], .tup [], .tup [], .tup [], .tup [], .tup [], .tup [], .tup [], .tup [], .tup [], .tup [], .tup [], .tup [], .tup [], .tup [], .tup [], .tup [], .tup [], .tup [], .tup [], .tup [], .tup [], .tup [], .tup [], .tup [], .tup [], .tup [], .tup [], .tup [], .tup [], .tup []], []⟩ S _
  refine q_seq e0 ?_
  refine q_region e1 rfl ?_
  refine q_op (dst := some 4) rfl (fun _ ho => ok_assign ho (.bool _)) ?_
  refine hr_region_end ?_
  try simp only [HAct.put, List.set_cons_zero, List.set_cons_succ]
  refine q_seq e2 ?_
  refine q_seq e3 ?_
  refine q_region e4 rfl ?_
  obtain ⟨p1, hp1, h⟩ := bindo h
  refine q_call (dst := some 6) rfl (.func _) Evs.nil (HInv.static rollcalllaw01_awake.at_ rollcalllaw01_awake.body (rollcalllaw01_awake.snd  hp1)) ?_
  rintro _ _ ⟨rfl, rfl⟩
  refine q_op (dst := some 7) rfl (fun _ ho => ok_not ho (.tmp rfl)) ?_
  refine hr_region_end ?_
  try simp only [HAct.put, List.set_cons_zero, List.set_cons_succ]
  rcases ifc h with ⟨hc2, h⟩ | ⟨hc2, h⟩
  · refine q_cond_t e5 (.tmp rfl) hc2 ?_
    refine q_seq e6 ?_
    refine q_region e7 rfl ?_
    refine q_op (dst := some 4) rfl (fun _ ho => ok_assign ho (.bool _)) ?_
    refine hr_region_end ?_
    try simp only [HAct.put, List.set_cons_zero, List.set_cons_succ]
    cases h
    exact q_ret e8 at_.at_ rfl (res1 rfl rfl) ⟨rfl, rfl⟩
  · refine q_cond_f e5 (.tmp rfl) (bfalse hc2) ?_
    refine q_skipc e9 ?_
    refine q_seq e10 ?_
    refine q_seq e11 ?_
    refine q_region e12 rfl ?_
    refine q_op (dst := some 8) rfl (fun _ ho => ok_move ho (.tmp rfl)) ?_
    refine q_op (dst := some 9) rfl (fun _ ho => ok_len_str ho rfl tu9 (.tmp rfl)) ?_
    refine q_op (dst := some 10) rfl (fun _ ho => ok_ibin ho (.tmp rfl) (.int _ _) rfl) ?_
    refine q_op (dst := some 11) rfl (fun _ ho => ok_move ho (.tmp rfl)) ?_
    try simp only [HAct.put, List.set_cons_zero, List.set_cons_succ]
    rcases ifc h with ⟨hc3, h⟩ | ⟨hc3, h⟩
    · refine q_skip (dst := some 12) (t := 11) rfl rfl rfl (decide_eq_true hc3) ?_
      refine q_skip (dst := some 13) (t := 11) rfl rfl rfl (decide_eq_true hc3) ?_
      refine q_skip (dst := some 14) (t := 11) rfl rfl rfl (decide_eq_true hc3) ?_
      refine q_op (dst := some 15) rfl (fun _ ho => ok_pick_tt ho (.tmp rfl) (decide_eq_true hc3) (.bool _)) ?_
      refine hr_region_end ?_
      try simp only [HAct.put, List.set_cons_zero, List.set_cons_succ]
      try simp only [HAct.put, List.set_cons_zero, List.set_cons_succ]
      exact J0_snd  h
    · refine q_op_g (t := 11) (dst := some 12) rfl rfl rfl (decide_eq_false hc3) (fun _ ho => ok_move ho (.tmp rfl)) ?_
      refine q_op_g (t := 11) (dst := some 13) rfl rfl rfl (decide_eq_false hc3) (fun _ ho => ok_len_str ho rfl tu9 (.tmp rfl)) ?_
      refine q_op_g (t := 11) (dst := some 14) rfl rfl rfl (decide_eq_false hc3) (fun _ ho => ok_ibin ho (.tmp rfl) (.int _ _) rfl) ?_
      refine q_op (dst := some 15) rfl (fun _ ho => ok_pick_ff ho (.tmp rfl) (decide_eq_false hc3) (.tmp rfl)) ?_
      refine hr_region_end ?_
      try simp only [HAct.put, List.set_cons_zero, List.set_cons_succ]
      try simp only [HAct.put, List.set_cons_zero, List.set_cons_succ]
      exact J0_snd  h
end
end rollcalllaw01_FoldCompares
end Go.Proofs.Ytigobginglaieaa.X
