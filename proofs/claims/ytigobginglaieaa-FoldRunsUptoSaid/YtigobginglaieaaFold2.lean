/- Functions of the program, each as a Lean function over the layer HL: a call answers what the Lean function answers, where it answers. -/
import Derived.Test.YtigobginglaieaaProg
import Derived.Test.YtigobginglaieaaFold
namespace Go.Proofs.Ytigobginglaieaa.X
open Go.Proofs.Ytigobginglaieaa.HL
set_option linter.unusedVariables false
set_option linter.unusedSimpArgs false
set_option maxRecDepth 20000
namespace rollcalllaw01_FoldOrder
abbrev id : Nat := 7
theorem at_ : FnAt Try.prog 7 Try.f7 := ⟨Try.func7, by kernel_rfl⟩
noncomputable def c0 : Code := (Try.f7.body).getD .skip
noncomputable def c1 : Code := match c0 with | .seq x _ => x | _ => .skip
noncomputable def c2 : Code := match c0 with | .seq _ x => x | _ => .skip
noncomputable def c3 : Code := match c2 with | .seq x _ => x | _ => .skip
noncomputable def c4 : Code := match c3 with | .seq x _ => x | _ => .skip
noncomputable def c5 : Code := match c3 with | .seq _ x => x | _ => .skip
noncomputable def c6 : Code := match c5 with | .cond _ x _ => x | _ => .skip
noncomputable def c7 : Code := match c6 with | .seq x _ => x | _ => .skip
noncomputable def c8 : Code := match c6 with | .seq _ x => x | _ => .skip
noncomputable def c9 : Code := match c5 with | .cond _ _ x => x | _ => .skip
noncomputable def c10 : Code := match c2 with | .seq _ x => x | _ => .skip
noncomputable def c11 : Code := match c10 with | .seq x _ => x | _ => .skip
noncomputable def c12 : Code := match c11 with | .seq x _ => x | _ => .skip
noncomputable def c13 : Code := match c11 with | .seq _ x => x | _ => .skip
noncomputable def c14 : Code := match c13 with | .cond _ x _ => x | _ => .skip
noncomputable def c15 : Code := match c14 with | .seq x _ => x | _ => .skip
noncomputable def c16 : Code := match c14 with | .seq _ x => x | _ => .skip
noncomputable def c17 : Code := match c13 with | .cond _ _ x => x | _ => .skip
noncomputable def c18 : Code := match c10 with | .seq _ x => x | _ => .skip
noncomputable def c19 : Code := match c18 with | .seq x _ => x | _ => .skip
noncomputable def c20 : Code := match c18 with | .seq _ x => x | _ => .skip
noncomputable def c21 : Code := match c20 with | .seq x _ => x | _ => .skip
noncomputable def c22 : Code := match c21 with | .seq x _ => x | _ => .skip
noncomputable def c23 : Code := match c21 with | .seq _ x => x | _ => .skip
noncomputable def c24 : Code := match c23 with | .cond _ x _ => x | _ => .skip
noncomputable def c25 : Code := match c24 with | .seq x _ => x | _ => .skip
noncomputable def c26 : Code := match c24 with | .seq _ x => x | _ => .skip
noncomputable def c27 : Code := match c23 with | .cond _ _ x => x | _ => .skip
noncomputable def c28 : Code := match c20 with | .seq _ x => x | _ => .skip
noncomputable def c29 : Code := match c28 with | .seq x _ => x | _ => .skip
noncomputable def c30 : Code := match c29 with | .seq x _ => x | _ => .skip
noncomputable def c31 : Code := match c29 with | .seq _ x => x | _ => .skip
noncomputable def c32 : Code := match c31 with | .cond _ x _ => x | _ => .skip
noncomputable def c33 : Code := match c32 with | .seq x _ => x | _ => .skip
noncomputable def c34 : Code := match c32 with | .seq _ x => x | _ => .skip
noncomputable def c35 : Code := match c31 with | .cond _ _ x => x | _ => .skip
noncomputable def c36 : Code := match c28 with | .seq _ x => x | _ => .skip
noncomputable def c37 : Code := match c36 with | .seq x _ => x | _ => .skip
noncomputable def c38 : Code := match c36 with | .seq _ x => x | _ => .skip
theorem e0 : c0 = .seq c1 c2 := by kernel_rfl
noncomputable def r1 : Array Oper := match c1 with | .region _ x _ => x | _ => #[]
theorem e1 : c1 = .region 0 r1 false := by kernel_rfl
theorem e2 : c2 = .seq c3 c10 := by kernel_rfl
theorem e3 : c3 = .seq c4 c5 := by kernel_rfl
noncomputable def r4 : Array Oper := match c4 with | .region _ x _ => x | _ => #[]
theorem e4 : c4 = .region 1 r4 false := by kernel_rfl
theorem e5 : c5 = .cond (.tmp 10) c6 c9 := by kernel_rfl
theorem e6 : c6 = .seq c7 c8 := by kernel_rfl
noncomputable def r7 : Array Oper := match c7 with | .region _ x _ => x | _ => #[]
theorem e7 : c7 = .region 2 r7 false := by kernel_rfl
theorem e8 : c8 = .ret := by kernel_rfl
theorem e9 : c9 = .skip := by kernel_rfl
theorem e10 : c10 = .seq c11 c18 := by kernel_rfl
theorem e11 : c11 = .seq c12 c13 := by kernel_rfl
noncomputable def r12 : Array Oper := match c12 with | .region _ x _ => x | _ => #[]
theorem e12 : c12 = .region 3 r12 false := by kernel_rfl
theorem e13 : c13 = .cond (.tmp 23) c14 c17 := by kernel_rfl
theorem e14 : c14 = .seq c15 c16 := by kernel_rfl
noncomputable def r15 : Array Oper := match c15 with | .region _ x _ => x | _ => #[]
theorem e15 : c15 = .region 4 r15 false := by kernel_rfl
theorem e16 : c16 = .ret := by kernel_rfl
theorem e17 : c17 = .skip := by kernel_rfl
theorem e18 : c18 = .seq c19 c20 := by kernel_rfl
noncomputable def r19 : Array Oper := match c19 with | .region _ x _ => x | _ => #[]
theorem e19 : c19 = .region 5 r19 false := by kernel_rfl
theorem e20 : c20 = .seq c21 c28 := by kernel_rfl
theorem e21 : c21 = .seq c22 c23 := by kernel_rfl
noncomputable def r22 : Array Oper := match c22 with | .region _ x _ => x | _ => #[]
theorem e22 : c22 = .region 6 r22 false := by kernel_rfl
theorem e23 : c23 = .cond (.tmp 54) c24 c27 := by kernel_rfl
theorem e24 : c24 = .seq c25 c26 := by kernel_rfl
noncomputable def r25 : Array Oper := match c25 with | .region _ x _ => x | _ => #[]
theorem e25 : c25 = .region 7 r25 false := by kernel_rfl
theorem e26 : c26 = .ret := by kernel_rfl
theorem e27 : c27 = .skip := by kernel_rfl
theorem e28 : c28 = .seq c29 c36 := by kernel_rfl
theorem e29 : c29 = .seq c30 c31 := by kernel_rfl
noncomputable def r30 : Array Oper := match c30 with | .region _ x _ => x | _ => #[]
theorem e30 : c30 = .region 8 r30 false := by kernel_rfl
theorem e31 : c31 = .cond (.tmp 66) c32 c35 := by kernel_rfl
theorem e32 : c32 = .seq c33 c34 := by kernel_rfl
noncomputable def r33 : Array Oper := match c33 with | .region _ x _ => x | _ => #[]
theorem e33 : c33 = .region 9 r33 false := by kernel_rfl
theorem e34 : c34 = .ret := by kernel_rfl
theorem e35 : c35 = .skip := by kernel_rfl
theorem e36 : c36 = .seq c37 c38 := by kernel_rfl
noncomputable def r37 : Array Oper := match c37 with | .region _ x _ => x | _ => #[]
theorem e37 : c37 = .region 10 r37 false := by kernel_rfl
theorem e38 : c38 = .ret := by kernel_rfl
theorem body : Try.f7.body = some c0 := by kernel_rfl
section
variable {base : Nat} {W0 : World} {β0 : Bt}
def J7 (k : Nat) (y90 : Bool) (S : HS) : Option ((Bool) × HS) :=
  some (y90, S)
theorem J7_snd {k : Nat}  {y90 : Bool} {S : HS} {p : (Bool) × HS} {g0 g1 g2 g3 g4 g5 g6 g7 g8 g9 g10 g11 g12 g13 g14 g15 g16 g17 g18 g19 g20 g21 g22 g23 g24 g25 g26 g27 g28 g29 g30 g31 g32 g33 g34 g35 g36 g37 g38 g39 g40 g41 g42 g43 g44 g45 g46 g47 g48 g49 g50 g51 g52 g53 g54 g55 g56 g57 g58 g59 g60 g61 g62 g63 g64 g65 g66 g67 g68 g69 g70 g71 g72 g73 g74 g75 g76 g77 g78 g79 g80 g81 g82 g83 g84 g85 g86 g87 g88 g89 : HV} (h : J7 k y90 S = some p) : HRun Try.prog base W0 β0 7 none [.inRegion r37 [24], .code c38] ⟨[g0, g1, g2, g3, g4, g5, g6, g7, g8, g9, g10, g11, g12, g13, g14, g15, g16, g17, g18, g19, g20, g21, g22, g23, g24, g25, g26, g27, g28, g29, g30, g31, g32, g33, g34, g35, g36, g37, g38, g39, g40, g41, g42, g43, g44, g45, g46, g47, g48, g49, g50, g51, g52, g53, g54, g55, g56, g57, g58, g59, g60, g61, g62, g63, g64, g65, g66, g67, g68, g69, g70, g71, g72, g73, g74, g75, g76, g77, g78, g79, g80, g81, g82, g83, g84, g85, g86, g87, g88, g89, (.bool y90)], []⟩ S (fun v S1 => v = (.bool p.1) ∧ S1 = p.2) := by
  unfold J7 at h
  refine q_op (dst := some 6) rfl (fun _ ho => ok_assign ho (.tmp rfl)) ?_
  refine hr_region_end ?_
  try simp only [HAct.put, List.set_cons_zero, List.set_cons_succ]
  cases h
  exact q_ret e38 at_.at_ rfl (res1 rfl rfl) ⟨rfl, rfl⟩
def J6 (k : Nat) (y0 : (List UInt8)) (y1 : (List UInt8)) (y82 : Bool) (S : HS) : Option ((Bool) × HS) :=
  (if y82 = true then
  (Option.bind (fold_Text.f k y0 S) fun p23 =>
  (if List.length p23.1 + List.length y1 ≤ 9223372036854775807 then
  (Option.bind (fold_Prefix.f k (p23.1 ++ y1) y0) fun p25 =>
  J7 k p25 p23.2) else none)) else
  J7 k false S)
theorem J6_snd {k : Nat}  {y0 : (List UInt8)} {y1 : (List UInt8)} {y82 : Bool} {S : HS} {p : (Bool) × HS} {g2 g3 g4 g5 g6 g7 g8 g9 g10 g11 g12 g13 g14 g15 g16 g17 g18 g19 g20 g21 g22 g23 g24 g25 g26 g27 g28 g29 g30 g31 g32 g33 g34 g35 g36 g37 g38 g39 g40 g41 g42 g43 g44 g45 g46 g47 g48 g49 g50 g51 g52 g53 g54 g55 g56 g57 g58 g59 g60 g61 g62 g63 g64 g65 g66 g67 g68 g69 g70 g71 g72 g73 g74 g75 g76 g77 g78 g79 g80 g81 g83 g84 g85 g86 g87 g88 g89 g90 : HV} (h : J6 k y0 y1 y82 S = some p) : HRun Try.prog base W0 β0 7 none [.inRegion r37 [16, 17, 18, 19, 20, 21, 22, 23, 24], .code c38] ⟨[(.str y0), (.str y1), g2, g3, g4, g5, g6, g7, g8, g9, g10, g11, g12, g13, g14, g15, g16, g17, g18, g19, g20, g21, g22, g23, g24, g25, g26, g27, g28, g29, g30, g31, g32, g33, g34, g35, g36, g37, g38, g39, g40, g41, g42, g43, g44, g45, g46, g47, g48, g49, g50, g51, g52, g53, g54, g55, g56, g57, g58, g59, g60, g61, g62, g63, g64, g65, g66, g67, g68, g69, g70, g71, g72, g73, g74, g75, g76, g77, g78, g79, g80, g81, (.bool y82), g83, g84, g85, g86, g87, g88, g89, g90], []⟩ S (fun v S1 => v = (.bool p.1) ∧ S1 = p.2) := by
  unfold J6 at h
  refine q_op (dst := some 83) rfl (fun _ ho => ok_move ho (.tmp rfl)) ?_
  rcases ifc h with ⟨hc22, h⟩ | ⟨hc22, h⟩
  · refine q_op_g (t := 83) (dst := some 84) rfl rfl rfl hc22 (fun _ ho => ok_move ho (.tmp rfl)) ?_
    obtain ⟨p23, hp23, h⟩ := bindo h
    refine q_call_g (t := 83) (dst := some 85) rfl rfl rfl hc22 (.func _) (.cons (.tmp rfl) Evs.nil) (HInv.static fold_Text.at_ fold_Text.body (fold_Text.snd  hp23)) ?_
    rintro _ _ ⟨rfl, rfl⟩
    refine q_op_g (t := 83) (dst := some 86) rfl rfl rfl hc22 (fun _ ho => ok_move ho (.tmp rfl)) ?_
    try simp only [HAct.put, List.set_cons_zero, List.set_cons_succ]
    obtain ⟨hg24, h⟩ := gd h
    refine q_op_g (t := 83) (dst := some 87) rfl rfl rfl hc22 (fun _ ho => ok_sadd ho (.tmp rfl) (.tmp rfl) hg24) ?_
    refine q_op_g (t := 83) (dst := some 88) rfl rfl rfl hc22 (fun _ ho => ok_move ho (.tmp rfl)) ?_
    obtain ⟨p25, hp25, h⟩ := bindo h
    refine q_call_g (t := 83) (dst := some 89) rfl rfl rfl hc22 (.func _) (.cons (.tmp rfl) (.cons (.tmp rfl) Evs.nil)) (HInv.static fold_Prefix.at_ fold_Prefix.body (fold_Prefix.snd  hp25)) ?_
    rintro _ _ ⟨rfl, rfl⟩
    refine q_op (dst := some 90) rfl (fun _ ho => ok_pick_tt ho (.tmp rfl) hc22 (.tmp rfl)) ?_
    try simp only [HAct.put, List.set_cons_zero, List.set_cons_succ]
    try simp only [HAct.put, List.set_cons_zero, List.set_cons_succ]
    exact J7_snd  h
  · refine q_skip (dst := some 84) (t := 83) rfl rfl rfl (bfalse hc22) ?_
    refine q_skip (dst := some 85) (t := 83) rfl rfl rfl (bfalse hc22) ?_
    refine q_skip (dst := some 86) (t := 83) rfl rfl rfl (bfalse hc22) ?_
    try simp only [HAct.put, List.set_cons_zero, List.set_cons_succ]
    refine q_skip (dst := some 87) (t := 83) rfl rfl rfl (bfalse hc22) ?_
    refine q_skip (dst := some 88) (t := 83) rfl rfl rfl (bfalse hc22) ?_
    refine q_skip (dst := some 89) (t := 83) rfl rfl rfl (bfalse hc22) ?_
    refine q_op (dst := some 90) rfl (fun _ ho => ok_pick_ff ho (.tmp rfl) (bfalse hc22) (.bool _)) ?_
    try simp only [HAct.put, List.set_cons_zero, List.set_cons_succ]
    try simp only [HAct.put, List.set_cons_zero, List.set_cons_succ]
    exact J7_snd  h
def J5 (k : Nat) (y0 : (List UInt8)) (y1 : (List UInt8)) (y2 : (List UInt8)) (y7 : Int) (y66 : Bool) (S : HS) : Option ((Bool) × HS) :=
  (if y66 = true then
  some (false, S) else
  (if List.length y2 + List.length y0 ≤ 9223372036854775807 then
  (if List.length y2 + List.length y1 ≤ 9223372036854775807 then
  (Option.bind (fold_Compare.f k (y2 ++ y0) (y2 ++ y1)) fun p18 =>
  (if p18 = y7 then
  (if List.length y0 + List.length y1 ≤ 9223372036854775807 then
  (Option.bind (fold_Prefix.f k (y0 ++ y1) y0) fun p21 =>
  J6 k y0 y1 p21 S) else none) else
  J6 k y0 y1 false S)) else none) else none))
theorem J5_snd {k : Nat}  {y0 : (List UInt8)} {y1 : (List UInt8)} {y2 : (List UInt8)} {y7 : Int} {y66 : Bool} {S : HS} {p : (Bool) × HS} {g3 g4 g5 g6 g8 g9 g10 g11 g12 g13 g14 g15 g16 g17 g18 g19 g20 g21 g22 g23 g24 g25 g26 g27 g28 g29 g30 g31 g32 g33 g34 g35 g36 g37 g38 g39 g40 g41 g42 g43 g44 g45 g46 g47 g48 g49 g50 g51 g52 g53 g54 g55 g56 g57 g58 g59 g60 g61 g62 g63 g64 g65 g67 g68 g69 g70 g71 g72 g73 g74 g75 g76 g77 g78 g79 g80 g81 g82 g83 g84 g85 g86 g87 g88 g89 g90 : HV} (h : J5 k y0 y1 y2 y7 y66 S = some p) : HRun Try.prog base W0 β0 7 none [.code c31, .code c36] ⟨[(.str y0), (.str y1), (.str y2), g3, g4, g5, g6, (.int .i64 y7), g8, g9, g10, g11, g12, g13, g14, g15, g16, g17, g18, g19, g20, g21, g22, g23, g24, g25, g26, g27, g28, g29, g30, g31, g32, g33, g34, g35, g36, g37, g38, g39, g40, g41, g42, g43, g44, g45, g46, g47, g48, g49, g50, g51, g52, g53, g54, g55, g56, g57, g58, g59, g60, g61, g62, g63, g64, g65, (.bool y66), g67, g68, g69, g70, g71, g72, g73, g74, g75, g76, g77, g78, g79, g80, g81, g82, g83, g84, g85, g86, g87, g88, g89, g90], []⟩ S (fun v S1 => v = (.bool p.1) ∧ S1 = p.2) := by
  unfold J5 at h
  rcases ifc h with ⟨hc15, h⟩ | ⟨hc15, h⟩
  · refine q_cond_t e31 (.tmp rfl) hc15 ?_
    refine q_seq e32 ?_
    refine q_region e33 rfl ?_
    refine q_op (dst := some 6) rfl (fun _ ho => ok_assign ho (.bool _)) ?_
    refine hr_region_end ?_
    try simp only [HAct.put, List.set_cons_zero, List.set_cons_succ]
    cases h
    exact q_ret e34 at_.at_ rfl (res1 rfl rfl) ⟨rfl, rfl⟩
  · refine q_cond_f e31 (.tmp rfl) (bfalse hc15) ?_
    refine q_skipc e35 ?_
    refine q_seq e36 ?_
    refine q_region e37 rfl ?_
    refine q_op (dst := some 67) rfl (fun _ ho => ok_move ho (.tmp rfl)) ?_
    refine q_op (dst := some 68) rfl (fun _ ho => ok_move ho (.tmp rfl)) ?_
    obtain ⟨hg16, h⟩ := gd h
    refine q_op (dst := some 69) rfl (fun _ ho => ok_sadd ho (.tmp rfl) (.tmp rfl) hg16) ?_
    refine q_op (dst := some 70) rfl (fun _ ho => ok_move ho (.tmp rfl)) ?_
    try simp only [HAct.put, List.set_cons_zero, List.set_cons_succ]
    refine q_op (dst := some 71) rfl (fun _ ho => ok_move ho (.tmp rfl)) ?_
    obtain ⟨hg17, h⟩ := gd h
    refine q_op (dst := some 72) rfl (fun _ ho => ok_sadd ho (.tmp rfl) (.tmp rfl) hg17) ?_
    obtain ⟨p18, hp18, h⟩ := bindo h
    refine q_call (dst := some 73) rfl (.func _) (.cons (.tmp rfl) (.cons (.tmp rfl) Evs.nil)) (HInv.static fold_Compare.at_ fold_Compare.body (fold_Compare.snd  hp18)) ?_
    rintro _ _ ⟨rfl, rfl⟩
    refine q_op (dst := some 74) rfl (fun _ ho => ok_move ho (.tmp rfl)) ?_
    try simp only [HAct.put, List.set_cons_zero, List.set_cons_succ]
    refine q_op (dst := some 75) rfl (fun _ ho => ok_ibin ho (.tmp rfl) (.tmp rfl) rfl) ?_
    refine q_op (dst := some 76) rfl (fun _ ho => ok_move ho (.tmp rfl)) ?_
    rcases ifc h with ⟨hc19, h⟩ | ⟨hc19, h⟩
    · refine q_op_g (t := 76) (dst := some 77) rfl rfl rfl (decide_eq_true hc19) (fun _ ho => ok_move ho (.tmp rfl)) ?_
      refine q_op_g (t := 76) (dst := some 78) rfl rfl rfl (decide_eq_true hc19) (fun _ ho => ok_move ho (.tmp rfl)) ?_
      try simp only [HAct.put, List.set_cons_zero, List.set_cons_succ]
      obtain ⟨hg20, h⟩ := gd h
      refine q_op_g (t := 76) (dst := some 79) rfl rfl rfl (decide_eq_true hc19) (fun _ ho => ok_sadd ho (.tmp rfl) (.tmp rfl) hg20) ?_
      refine q_op_g (t := 76) (dst := some 80) rfl rfl rfl (decide_eq_true hc19) (fun _ ho => ok_move ho (.tmp rfl)) ?_
      obtain ⟨p21, hp21, h⟩ := bindo h
      refine q_call_g (t := 76) (dst := some 81) rfl rfl rfl (decide_eq_true hc19) (.func _) (.cons (.tmp rfl) (.cons (.tmp rfl) Evs.nil)) (HInv.static fold_Prefix.at_ fold_Prefix.body (fold_Prefix.snd  hp21)) ?_
      rintro _ _ ⟨rfl, rfl⟩
      refine q_op (dst := some 82) rfl (fun _ ho => ok_pick_tt ho (.tmp rfl) (decide_eq_true hc19) (.tmp rfl)) ?_
      try simp only [HAct.put, List.set_cons_zero, List.set_cons_succ]
      try simp only [HAct.put, List.set_cons_zero, List.set_cons_succ]
      exact J6_snd  h
    · refine q_skip (dst := some 77) (t := 76) rfl rfl rfl (decide_eq_false hc19) ?_
      refine q_skip (dst := some 78) (t := 76) rfl rfl rfl (decide_eq_false hc19) ?_
      try simp only [HAct.put, List.set_cons_zero, List.set_cons_succ]
      refine q_skip (dst := some 79) (t := 76) rfl rfl rfl (decide_eq_false hc19) ?_
      refine q_skip (dst := some 80) (t := 76) rfl rfl rfl (decide_eq_false hc19) ?_
      refine q_skip (dst := some 81) (t := 76) rfl rfl rfl (decide_eq_false hc19) ?_
      refine q_op (dst := some 82) rfl (fun _ ho => ok_pick_ff ho (.tmp rfl) (decide_eq_false hc19) (.bool _)) ?_
      try simp only [HAct.put, List.set_cons_zero, List.set_cons_succ]
      try simp only [HAct.put, List.set_cons_zero, List.set_cons_succ]
      exact J6_snd  h
def J4 (k : Nat) (y0 : (List UInt8)) (y1 : (List UInt8)) (y2 : (List UInt8)) (y7 : Int) (y60 : Bool) (S : HS) : Option ((Bool) × HS) :=
  (if y60 = true then
  (Option.bind (fold_Compare.f k y0 y2) fun p14 =>
  J5 k y0 y1 y2 y7 (decide (p14 > 0)) S) else
  J5 k y0 y1 y2 y7 false S)
theorem J4_snd {k : Nat}  {y0 : (List UInt8)} {y1 : (List UInt8)} {y2 : (List UInt8)} {y7 : Int} {y60 : Bool} {S : HS} {p : (Bool) × HS} {g3 g4 g5 g6 g8 g9 g10 g11 g12 g13 g14 g15 g16 g17 g18 g19 g20 g21 g22 g23 g24 g25 g26 g27 g28 g29 g30 g31 g32 g33 g34 g35 g36 g37 g38 g39 g40 g41 g42 g43 g44 g45 g46 g47 g48 g49 g50 g51 g52 g53 g54 g55 g56 g57 g58 g59 g61 g62 g63 g64 g65 g66 g67 g68 g69 g70 g71 g72 g73 g74 g75 g76 g77 g78 g79 g80 g81 g82 g83 g84 g85 g86 g87 g88 g89 g90 : HV} (h : J4 k y0 y1 y2 y7 y60 S = some p) : HRun Try.prog base W0 β0 7 none [.inRegion r30 [6, 7, 8, 9, 10, 11], .code c31, .code c36] ⟨[(.str y0), (.str y1), (.str y2), g3, g4, g5, g6, (.int .i64 y7), g8, g9, g10, g11, g12, g13, g14, g15, g16, g17, g18, g19, g20, g21, g22, g23, g24, g25, g26, g27, g28, g29, g30, g31, g32, g33, g34, g35, g36, g37, g38, g39, g40, g41, g42, g43, g44, g45, g46, g47, g48, g49, g50, g51, g52, g53, g54, g55, g56, g57, g58, g59, (.bool y60), g61, g62, g63, g64, g65, g66, g67, g68, g69, g70, g71, g72, g73, g74, g75, g76, g77, g78, g79, g80, g81, g82, g83, g84, g85, g86, g87, g88, g89, g90], []⟩ S (fun v S1 => v = (.bool p.1) ∧ S1 = p.2) := by
  unfold J4 at h
  refine q_op (dst := some 61) rfl (fun _ ho => ok_move ho (.tmp rfl)) ?_
  rcases ifc h with ⟨hc13, h⟩ | ⟨hc13, h⟩
  · refine q_op_g (t := 61) (dst := some 62) rfl rfl rfl hc13 (fun _ ho => ok_move ho (.tmp rfl)) ?_
    try simp only [HAct.put, List.set_cons_zero, List.set_cons_succ]
    refine q_op_g (t := 61) (dst := some 63) rfl rfl rfl hc13 (fun _ ho => ok_move ho (.tmp rfl)) ?_
    obtain ⟨p14, hp14, h⟩ := bindo h
    refine q_call_g (t := 61) (dst := some 64) rfl rfl rfl hc13 (.func _) (.cons (.tmp rfl) (.cons (.tmp rfl) Evs.nil)) (HInv.static fold_Compare.at_ fold_Compare.body (fold_Compare.snd  hp14)) ?_
    rintro _ _ ⟨rfl, rfl⟩
    refine q_op_g (t := 61) (dst := some 65) rfl rfl rfl hc13 (fun _ ho => ok_ibin ho (.tmp rfl) (.int _ _) rfl) ?_
    refine q_op (dst := some 66) rfl (fun _ ho => ok_pick_tt ho (.tmp rfl) hc13 (.tmp rfl)) ?_
    refine hr_region_end ?_
    try simp only [HAct.put, List.set_cons_zero, List.set_cons_succ]
    try simp only [HAct.put, List.set_cons_zero, List.set_cons_succ]
    exact J5_snd  h
  · refine q_skip (dst := some 62) (t := 61) rfl rfl rfl (bfalse hc13) ?_
    try simp only [HAct.put, List.set_cons_zero, List.set_cons_succ]
    refine q_skip (dst := some 63) (t := 61) rfl rfl rfl (bfalse hc13) ?_
    refine q_skip (dst := some 64) (t := 61) rfl rfl rfl (bfalse hc13) ?_
    refine q_skip (dst := some 65) (t := 61) rfl rfl rfl (bfalse hc13) ?_
    refine q_op (dst := some 66) rfl (fun _ ho => ok_pick_ff ho (.tmp rfl) (bfalse hc13) (.bool _)) ?_
    refine hr_region_end ?_
    try simp only [HAct.put, List.set_cons_zero, List.set_cons_succ]
    try simp only [HAct.put, List.set_cons_zero, List.set_cons_succ]
    exact J5_snd  h
def J3 (k : Nat) (y0 : (List UInt8)) (y1 : (List UInt8)) (y2 : (List UInt8)) (y7 : Int) (y8 : Int) (y54 : Bool) (S : HS) : Option ((Bool) × HS) :=
  (if y54 = true then
  some (false, S) else
  (if y7 ≤ 0 then
  J4 k y0 y1 y2 y7 (decide (y8 ≤ 0)) S else
  J4 k y0 y1 y2 y7 false S))
theorem J3_snd {k : Nat}  {y0 : (List UInt8)} {y1 : (List UInt8)} {y2 : (List UInt8)} {y7 : Int} {y8 : Int} {y54 : Bool} {S : HS} {p : (Bool) × HS} {g3 g4 g5 g6 g9 g10 g11 g12 g13 g14 g15 g16 g17 g18 g19 g20 g21 g22 g23 g24 g25 g26 g27 g28 g29 g30 g31 g32 g33 g34 g35 g36 g37 g38 g39 g40 g41 g42 g43 g44 g45 g46 g47 g48 g49 g50 g51 g52 g53 g55 g56 g57 g58 g59 g60 g61 g62 g63 g64 g65 g66 g67 g68 g69 g70 g71 g72 g73 g74 g75 g76 g77 g78 g79 g80 g81 g82 g83 g84 g85 g86 g87 g88 g89 g90 : HV} (h : J3 k y0 y1 y2 y7 y8 y54 S = some p) : HRun Try.prog base W0 β0 7 none [.code c23, .code c28] ⟨[(.str y0), (.str y1), (.str y2), g3, g4, g5, g6, (.int .i64 y7), (.int .i64 y8), g9, g10, g11, g12, g13, g14, g15, g16, g17, g18, g19, g20, g21, g22, g23, g24, g25, g26, g27, g28, g29, g30, g31, g32, g33, g34, g35, g36, g37, g38, g39, g40, g41, g42, g43, g44, g45, g46, g47, g48, g49, g50, g51, g52, g53, (.bool y54), g55, g56, g57, g58, g59, g60, g61, g62, g63, g64, g65, g66, g67, g68, g69, g70, g71, g72, g73, g74, g75, g76, g77, g78, g79, g80, g81, g82, g83, g84, g85, g86, g87, g88, g89, g90], []⟩ S (fun v S1 => v = (.bool p.1) ∧ S1 = p.2) := by
  unfold J3 at h
  rcases ifc h with ⟨hc11, h⟩ | ⟨hc11, h⟩
  · refine q_cond_t e23 (.tmp rfl) hc11 ?_
    refine q_seq e24 ?_
    refine q_region e25 rfl ?_
    refine q_op (dst := some 6) rfl (fun _ ho => ok_assign ho (.bool _)) ?_
    refine hr_region_end ?_
    try simp only [HAct.put, List.set_cons_zero, List.set_cons_succ]
    cases h
    exact q_ret e26 at_.at_ rfl (res1 rfl rfl) ⟨rfl, rfl⟩
  · refine q_cond_f e23 (.tmp rfl) (bfalse hc11) ?_
    refine q_skipc e27 ?_
    refine q_seq e28 ?_
    refine q_seq e29 ?_
    refine q_region e30 rfl ?_
    refine q_op (dst := some 55) rfl (fun _ ho => ok_move ho (.tmp rfl)) ?_
    refine q_op (dst := some 56) rfl (fun _ ho => ok_ibin ho (.tmp rfl) (.int _ _) rfl) ?_
    refine q_op (dst := some 57) rfl (fun _ ho => ok_move ho (.tmp rfl)) ?_
    rcases ifc h with ⟨hc12, h⟩ | ⟨hc12, h⟩
    · refine q_op_g (t := 57) (dst := some 58) rfl rfl rfl (decide_eq_true hc12) (fun _ ho => ok_move ho (.tmp rfl)) ?_
      try simp only [HAct.put, List.set_cons_zero, List.set_cons_succ]
      refine q_op_g (t := 57) (dst := some 59) rfl rfl rfl (decide_eq_true hc12) (fun _ ho => ok_ibin ho (.tmp rfl) (.int _ _) rfl) ?_
      refine q_op (dst := some 60) rfl (fun _ ho => ok_pick_tt ho (.tmp rfl) (decide_eq_true hc12) (.tmp rfl)) ?_
      try simp only [HAct.put, List.set_cons_zero, List.set_cons_succ]
      exact J4_snd  h
    · refine q_skip (dst := some 58) (t := 57) rfl rfl rfl (decide_eq_false hc12) ?_
      try simp only [HAct.put, List.set_cons_zero, List.set_cons_succ]
      refine q_skip (dst := some 59) (t := 57) rfl rfl rfl (decide_eq_false hc12) ?_
      refine q_op (dst := some 60) rfl (fun _ ho => ok_pick_ff ho (.tmp rfl) (decide_eq_false hc12) (.bool _)) ?_
      try simp only [HAct.put, List.set_cons_zero, List.set_cons_succ]
      exact J4_snd  h
def J8 (k : Nat) (y0 : (List UInt8)) (y1 : (List UInt8)) (y2 : (List UInt8)) (y7 : Int) (y8 : Int) (y44 : Bool) (y53 : Bool) (S : HS) : Option ((Bool) × HS) :=
  (if y44 = true then
  J3 k y0 y1 y2 y7 y8 true S else
  J3 k y0 y1 y2 y7 y8 y53 S)
theorem J8_snd {k : Nat}  {y0 : (List UInt8)} {y1 : (List UInt8)} {y2 : (List UInt8)} {y7 : Int} {y8 : Int} {y44 : Bool} {y53 : Bool} {S : HS} {p : (Bool) × HS} {g3 g4 g5 g6 g9 g10 g11 g12 g13 g14 g15 g16 g17 g18 g19 g20 g21 g22 g23 g24 g25 g26 g27 g28 g29 g30 g31 g32 g33 g34 g35 g36 g37 g38 g39 g40 g41 g42 g43 g45 g46 g47 g48 g49 g50 g51 g52 g54 g55 g56 g57 g58 g59 g60 g61 g62 g63 g64 g65 g66 g67 g68 g69 g70 g71 g72 g73 g74 g75 g76 g77 g78 g79 g80 g81 g82 g83 g84 g85 g86 g87 g88 g89 g90 : HV} (h : J8 k y0 y1 y2 y7 y8 y44 y53 S = some p) : HRun Try.prog base W0 β0 7 none [.inRegion r22 [24], .code c23, .code c28] ⟨[(.str y0), (.str y1), (.str y2), g3, g4, g5, g6, (.int .i64 y7), (.int .i64 y8), g9, g10, g11, g12, g13, g14, g15, g16, g17, g18, g19, g20, g21, g22, g23, g24, g25, g26, g27, g28, g29, g30, g31, g32, g33, g34, g35, g36, g37, g38, g39, g40, g41, g42, g43, (.bool y44), g45, g46, g47, g48, g49, g50, g51, g52, (.bool y53), g54, g55, g56, g57, g58, g59, g60, g61, g62, g63, g64, g65, g66, g67, g68, g69, g70, g71, g72, g73, g74, g75, g76, g77, g78, g79, g80, g81, g82, g83, g84, g85, g86, g87, g88, g89, g90], []⟩ S (fun v S1 => v = (.bool p.1) ∧ S1 = p.2) := by
  unfold J8 at h
  rcases ifc h with ⟨hc27, h⟩ | ⟨hc27, h⟩
  · refine q_op (dst := some 54) rfl (fun _ ho => ok_pick_tt ho (.tmp rfl) hc27 (.bool _)) ?_
    refine hr_region_end ?_
    try simp only [HAct.put, List.set_cons_zero, List.set_cons_succ]
    try simp only [HAct.put, List.set_cons_zero, List.set_cons_succ]
    exact J3_snd  h
  · refine q_op (dst := some 54) rfl (fun _ ho => ok_pick_ff ho (.tmp rfl) (bfalse hc27) (.tmp rfl)) ?_
    refine hr_region_end ?_
    try simp only [HAct.put, List.set_cons_zero, List.set_cons_succ]
    try simp only [HAct.put, List.set_cons_zero, List.set_cons_succ]
    exact J3_snd  h
def J2 (k : Nat) (y0 : (List UInt8)) (y1 : (List UInt8)) (y2 : (List UInt8)) (y7 : Int) (y8 : Int) (y43 : Bool) (S : HS) : Option ((Bool) × HS) :=
  (if y43 = true then
  J3 k y0 y1 y2 y7 y8 true S else
  (if y7 = 0 then
  J8 k y0 y1 y2 y7 y8 y43 (!decide ((List.length y0 : Int) = (List.length y1 : Int))) S else
  J8 k y0 y1 y2 y7 y8 y43 false S))
theorem J2_snd {k : Nat}  {y0 : (List UInt8)} {y1 : (List UInt8)} {y2 : (List UInt8)} {y7 : Int} {y8 : Int} {y43 : Bool} {S : HS} {p : (Bool) × HS} {g3 g4 g5 g6 g9 g10 g11 g12 g13 g14 g15 g16 g17 g18 g19 g20 g21 g22 g23 g24 g25 g26 g27 g28 g29 g30 g31 g32 g33 g34 g35 g36 g37 g38 g39 g40 g41 g42 g44 g45 g46 g47 g48 g49 g50 g51 g52 g53 g54 g55 g56 g57 g58 g59 g60 g61 g62 g63 g64 g65 g66 g67 g68 g69 g70 g71 g72 g73 g74 g75 g76 g77 g78 g79 g80 g81 g82 g83 g84 g85 g86 g87 g88 g89 g90 : HV} (h : J2 k y0 y1 y2 y7 y8 y43 S = some p) : HRun Try.prog base W0 β0 7 none [.inRegion r22 [14, 15, 16, 17, 18, 19, 20, 21, 22, 23, 24], .code c23, .code c28] ⟨[(.str y0), (.str y1), (.str y2), g3, g4, g5, g6, (.int .i64 y7), (.int .i64 y8), g9, g10, g11, g12, g13, g14, g15, g16, g17, g18, g19, g20, g21, g22, g23, g24, g25, g26, g27, g28, g29, g30, g31, g32, g33, g34, g35, g36, g37, g38, g39, g40, g41, g42, (.bool y43), g44, g45, g46, g47, g48, g49, g50, g51, g52, g53, g54, g55, g56, g57, g58, g59, g60, g61, g62, g63, g64, g65, g66, g67, g68, g69, g70, g71, g72, g73, g74, g75, g76, g77, g78, g79, g80, g81, g82, g83, g84, g85, g86, g87, g88, g89, g90], []⟩ S (fun v S1 => v = (.bool p.1) ∧ S1 = p.2) := by
  unfold J2 at h
  refine q_op (dst := some 44) rfl (fun _ ho => ok_move ho (.tmp rfl)) ?_
  rcases ifc h with ⟨hc10, h⟩ | ⟨hc10, h⟩
  · refine q_skip (dst := some 45) (t := 44) rfl rfl rfl hc10 ?_
    try simp only [HAct.put, List.set_cons_zero, List.set_cons_succ]
    refine q_skip (dst := some 46) (t := 44) rfl rfl rfl hc10 ?_
    refine q_skip (dst := some 47) (t := 44) rfl rfl rfl hc10 ?_
    refine q_skip_u (dst := some 48) (t := 47) rfl rfl rfl ?_
    refine q_skip_u (dst := some 49) (t := 47) rfl rfl rfl ?_
    try simp only [HAct.put, List.set_cons_zero, List.set_cons_succ]
    refine q_skip_u (dst := some 50) (t := 47) rfl rfl rfl ?_
    refine q_skip_u (dst := some 51) (t := 47) rfl rfl rfl ?_
    refine q_skip_u (dst := some 52) (t := 47) rfl rfl rfl ?_
    refine q_skip (dst := some 53) (t := 44) rfl rfl rfl hc10 ?_
    try simp only [HAct.put, List.set_cons_zero, List.set_cons_succ]
    refine q_op (dst := some 54) rfl (fun _ ho => ok_pick_tt ho (.tmp rfl) hc10 (.bool _)) ?_
    refine hr_region_end ?_
    try simp only [HAct.put, List.set_cons_zero, List.set_cons_succ]
    try simp only [HAct.put, List.set_cons_zero, List.set_cons_succ]
    exact J3_snd  h
  · refine q_op_g (t := 44) (dst := some 45) rfl rfl rfl (bfalse hc10) (fun _ ho => ok_move ho (.tmp rfl)) ?_
    try simp only [HAct.put, List.set_cons_zero, List.set_cons_succ]
    refine q_op_g (t := 44) (dst := some 46) rfl rfl rfl (bfalse hc10) (fun _ ho => ok_ibin ho (.tmp rfl) (.int _ _) rfl) ?_
    refine q_op_g (t := 44) (dst := some 47) rfl rfl rfl (bfalse hc10) (fun _ ho => ok_move ho (.tmp rfl)) ?_
    rcases ifc h with ⟨hc26, h⟩ | ⟨hc26, h⟩
    · refine q_op_g (t := 47) (dst := some 48) rfl rfl rfl (decide_eq_true hc26) (fun _ ho => ok_move ho (.tmp rfl)) ?_
      refine q_op_g (t := 47) (dst := some 49) rfl rfl rfl (decide_eq_true hc26) (fun _ ho => ok_len_str ho rfl tu9 (.tmp rfl)) ?_
      try simp only [HAct.put, List.set_cons_zero, List.set_cons_succ]
      refine q_op_g (t := 47) (dst := some 50) rfl rfl rfl (decide_eq_true hc26) (fun _ ho => ok_move ho (.tmp rfl)) ?_
      refine q_op_g (t := 47) (dst := some 51) rfl rfl rfl (decide_eq_true hc26) (fun _ ho => ok_len_str ho rfl tu9 (.tmp rfl)) ?_
      refine q_op_g (t := 47) (dst := some 52) rfl rfl rfl (decide_eq_true hc26) (fun _ ho => ok_ibin ho (.tmp rfl) (.tmp rfl) rfl) ?_
      refine q_op_g (t := 44) (dst := some 53) rfl rfl rfl (bfalse hc10) (fun _ ho => ok_pick_tt ho (.tmp rfl) (decide_eq_true hc26) (.tmp rfl)) ?_
      try simp only [HAct.put, List.set_cons_zero, List.set_cons_succ]
      try simp only [HAct.put, List.set_cons_zero, List.set_cons_succ]
      exact J8_snd  h
    · refine q_skip (dst := some 48) (t := 47) rfl rfl rfl (decide_eq_false hc26) ?_
      refine q_skip (dst := some 49) (t := 47) rfl rfl rfl (decide_eq_false hc26) ?_
      try simp only [HAct.put, List.set_cons_zero, List.set_cons_succ]
      refine q_skip (dst := some 50) (t := 47) rfl rfl rfl (decide_eq_false hc26) ?_
      refine q_skip (dst := some 51) (t := 47) rfl rfl rfl (decide_eq_false hc26) ?_
      refine q_skip (dst := some 52) (t := 47) rfl rfl rfl (decide_eq_false hc26) ?_
      refine q_op_g (t := 44) (dst := some 53) rfl rfl rfl (bfalse hc10) (fun _ ho => ok_pick_ff ho (.tmp rfl) (decide_eq_false hc26) (.bool _)) ?_
      try simp only [HAct.put, List.set_cons_zero, List.set_cons_succ]
      try simp only [HAct.put, List.set_cons_zero, List.set_cons_succ]
      exact J8_snd  h
def J1 (k : Nat) (y0 : (List UInt8)) (y1 : (List UInt8)) (y2 : (List UInt8)) (y23 : Bool) (S : HS) : Option ((Bool) × HS) :=
  (if y23 = true then
  some (true, S) else
  (Option.bind (fold_Compare.f k y0 y1) fun p6 =>
  (Option.bind (fold_Compare.f k y1 y2) fun p7 =>
  (Option.bind (fold_Compare.f k y1 y0) fun p8 =>
  (if (!decide (p8 = (w64 (0 - p6)))) = true then
  J2 k y0 y1 y2 p6 p7 true S else
  (Option.bind (fold_Same.f k y0 y1) fun p28 =>
  J2 k y0 y1 y2 p6 p7 (!((decide (p6 = 0)) == p28)) S))))))
theorem J1_snd {k : Nat}  {y0 : (List UInt8)} {y1 : (List UInt8)} {y2 : (List UInt8)} {y23 : Bool} {S : HS} {p : (Bool) × HS} {g3 g4 g5 g6 g7 g8 g9 g10 g11 g12 g13 g14 g15 g16 g17 g18 g19 g20 g21 g22 g24 g25 g26 g27 g28 g29 g30 g31 g32 g33 g34 g35 g36 g37 g38 g39 g40 g41 g42 g43 g44 g45 g46 g47 g48 g49 g50 g51 g52 g53 g54 g55 g56 g57 g58 g59 g60 g61 g62 g63 g64 g65 g66 g67 g68 g69 g70 g71 g72 g73 g74 g75 g76 g77 g78 g79 g80 g81 g82 g83 g84 g85 g86 g87 g88 g89 g90 : HV} (h : J1 k y0 y1 y2 y23 S = some p) : HRun Try.prog base W0 β0 7 none [.code c13, .code c18] ⟨[(.str y0), (.str y1), (.str y2), g3, g4, g5, g6, g7, g8, g9, g10, g11, g12, g13, g14, g15, g16, g17, g18, g19, g20, g21, g22, (.bool y23), g24, g25, g26, g27, g28, g29, g30, g31, g32, g33, g34, g35, g36, g37, g38, g39, g40, g41, g42, g43, g44, g45, g46, g47, g48, g49, g50, g51, g52, g53, g54, g55, g56, g57, g58, g59, g60, g61, g62, g63, g64, g65, g66, g67, g68, g69, g70, g71, g72, g73, g74, g75, g76, g77, g78, g79, g80, g81, g82, g83, g84, g85, g86, g87, g88, g89, g90], []⟩ S (fun v S1 => v = (.bool p.1) ∧ S1 = p.2) := by
  unfold J1 at h
  rcases ifc h with ⟨hc5, h⟩ | ⟨hc5, h⟩
  · refine q_cond_t e13 (.tmp rfl) hc5 ?_
    refine q_seq e14 ?_
    refine q_region e15 rfl ?_
    refine q_op (dst := some 6) rfl (fun _ ho => ok_assign ho (.bool _)) ?_
    refine hr_region_end ?_
    try simp only [HAct.put, List.set_cons_zero, List.set_cons_succ]
    cases h
    exact q_ret e16 at_.at_ rfl (res1 rfl rfl) ⟨rfl, rfl⟩
  · refine q_cond_f e13 (.tmp rfl) (bfalse hc5) ?_
    refine q_skipc e17 ?_
    refine q_seq e18 ?_
    refine q_region e19 rfl ?_
    refine q_op (dst := some 24) rfl (fun _ ho => ok_move ho (.tmp rfl)) ?_
    refine q_op (dst := some 25) rfl (fun _ ho => ok_move ho (.tmp rfl)) ?_
    obtain ⟨p6, hp6, h⟩ := bindo h
    refine q_call (dst := some 26) rfl (.func _) (.cons (.tmp rfl) (.cons (.tmp rfl) Evs.nil)) (HInv.static fold_Compare.at_ fold_Compare.body (fold_Compare.snd  hp6)) ?_
    rintro _ _ ⟨rfl, rfl⟩
    refine q_op (dst := some 27) rfl (fun _ ho => ok_move ho (.tmp rfl)) ?_
    try simp only [HAct.put, List.set_cons_zero, List.set_cons_succ]
    refine q_op (dst := some 28) rfl (fun _ ho => ok_move ho (.tmp rfl)) ?_
    obtain ⟨p7, hp7, h⟩ := bindo h
    refine q_call (dst := some 29) rfl (.func _) (.cons (.tmp rfl) (.cons (.tmp rfl) Evs.nil)) (HInv.static fold_Compare.at_ fold_Compare.body (fold_Compare.snd  hp7)) ?_
    rintro _ _ ⟨rfl, rfl⟩
    refine q_op (dst := some 7) rfl (fun _ ho => ok_assign ho (.tmp rfl)) ?_
    refine q_op (dst := some 8) rfl (fun _ ho => ok_assign ho (.tmp rfl)) ?_
    refine hr_region_end ?_
    try simp only [HAct.put, List.set_cons_zero, List.set_cons_succ]
    refine q_seq e20 ?_
    refine q_seq e21 ?_
    refine q_region e22 rfl ?_
    refine q_op (dst := some 30) rfl (fun _ ho => ok_move ho (.tmp rfl)) ?_
    refine q_op (dst := some 31) rfl (fun _ ho => ok_move ho (.tmp rfl)) ?_
    obtain ⟨p8, hp8, h⟩ := bindo h
    refine q_call (dst := some 32) rfl (.func _) (.cons (.tmp rfl) (.cons (.tmp rfl) Evs.nil)) (HInv.static fold_Compare.at_ fold_Compare.body (fold_Compare.snd  hp8)) ?_
    rintro _ _ ⟨rfl, rfl⟩
    refine q_op (dst := some 33) rfl (fun _ ho => ok_move ho (.tmp rfl)) ?_
    try simp only [HAct.put, List.set_cons_zero, List.set_cons_succ]
    refine q_op (dst := some 34) rfl (fun _ ho => ok_neg ho (.tmp rfl)) ?_
    refine q_op (dst := some 35) rfl (fun _ ho => ok_ibin ho (.tmp rfl) (.tmp rfl) rfl) ?_
    refine q_op (dst := some 36) rfl (fun _ ho => ok_move ho (.tmp rfl)) ?_
    rcases ifc h with ⟨hc9, h⟩ | ⟨hc9, h⟩
    · refine q_skip (dst := some 37) (t := 36) rfl rfl rfl hc9 ?_
      try simp only [HAct.put, List.set_cons_zero, List.set_cons_succ]
      refine q_skip (dst := some 38) (t := 36) rfl rfl rfl hc9 ?_
      refine q_skip (dst := some 39) (t := 36) rfl rfl rfl hc9 ?_
      refine q_skip (dst := some 40) (t := 36) rfl rfl rfl hc9 ?_
      refine q_skip (dst := some 41) (t := 36) rfl rfl rfl hc9 ?_
      try simp only [HAct.put, List.set_cons_zero, List.set_cons_succ]
      refine q_skip (dst := some 42) (t := 36) rfl rfl rfl hc9 ?_
      refine q_op (dst := some 43) rfl (fun _ ho => ok_pick_tt ho (.tmp rfl) hc9 (.bool _)) ?_
      try simp only [HAct.put, List.set_cons_zero, List.set_cons_succ]
      exact J2_snd  h
    · refine q_op_g (t := 36) (dst := some 37) rfl rfl rfl (bfalse hc9) (fun _ ho => ok_move ho (.tmp rfl)) ?_
      try simp only [HAct.put, List.set_cons_zero, List.set_cons_succ]
      refine q_op_g (t := 36) (dst := some 38) rfl rfl rfl (bfalse hc9) (fun _ ho => ok_ibin ho (.tmp rfl) (.int _ _) rfl) ?_
      refine q_op_g (t := 36) (dst := some 39) rfl rfl rfl (bfalse hc9) (fun _ ho => ok_move ho (.tmp rfl)) ?_
      refine q_op_g (t := 36) (dst := some 40) rfl rfl rfl (bfalse hc9) (fun _ ho => ok_move ho (.tmp rfl)) ?_
      obtain ⟨p28, hp28, h⟩ := bindo h
      refine q_call_g (t := 36) (dst := some 41) rfl rfl rfl (bfalse hc9) (.func _) (.cons (.tmp rfl) (.cons (.tmp rfl) Evs.nil)) (HInv.static fold_Same.at_ fold_Same.body (fold_Same.snd  hp28)) ?_
      rintro _ _ ⟨rfl, rfl⟩
      try simp only [HAct.put, List.set_cons_zero, List.set_cons_succ]
      refine q_op_g (t := 36) (dst := some 42) rfl rfl rfl (bfalse hc9) (fun _ ho => ok_beq ho tu4 (.inr ⟨rfl, rfl⟩) (.tmp rfl) (.tmp rfl)) ?_
      refine q_op (dst := some 43) rfl (fun _ ho => ok_pick_ff ho (.tmp rfl) (bfalse hc9) (.tmp rfl)) ?_
      try simp only [HAct.put, List.set_cons_zero, List.set_cons_succ]
      exact J2_snd  h
def J0 (k : Nat) (y0 : (List UInt8)) (y1 : (List UInt8)) (y2 : (List UInt8)) (y18 : Bool) (S : HS) : Option ((Bool) × HS) :=
  (if y18 = true then
  J1 k y0 y1 y2 true S else
  J1 k y0 y1 y2 (decide ((List.length y2 : Int) > 60)) S)
theorem J0_snd {k : Nat}  {y0 : (List UInt8)} {y1 : (List UInt8)} {y2 : (List UInt8)} {y18 : Bool} {S : HS} {p : (Bool) × HS} {g3 g4 g5 g6 g7 g8 g9 g10 g11 g12 g13 g14 g15 g16 g17 g19 g20 g21 g22 g23 g24 g25 g26 g27 g28 g29 g30 g31 g32 g33 g34 g35 g36 g37 g38 g39 g40 g41 g42 g43 g44 g45 g46 g47 g48 g49 g50 g51 g52 g53 g54 g55 g56 g57 g58 g59 g60 g61 g62 g63 g64 g65 g66 g67 g68 g69 g70 g71 g72 g73 g74 g75 g76 g77 g78 g79 g80 g81 g82 g83 g84 g85 g86 g87 g88 g89 g90 : HV} (h : J0 k y0 y1 y2 y18 S = some p) : HRun Try.prog base W0 β0 7 none [.inRegion r12 [8, 9, 10, 11, 12], .code c13, .code c18] ⟨[(.str y0), (.str y1), (.str y2), g3, g4, g5, g6, g7, g8, g9, g10, g11, g12, g13, g14, g15, g16, g17, (.bool y18), g19, g20, g21, g22, g23, g24, g25, g26, g27, g28, g29, g30, g31, g32, g33, g34, g35, g36, g37, g38, g39, g40, g41, g42, g43, g44, g45, g46, g47, g48, g49, g50, g51, g52, g53, g54, g55, g56, g57, g58, g59, g60, g61, g62, g63, g64, g65, g66, g67, g68, g69, g70, g71, g72, g73, g74, g75, g76, g77, g78, g79, g80, g81, g82, g83, g84, g85, g86, g87, g88, g89, g90], []⟩ S (fun v S1 => v = (.bool p.1) ∧ S1 = p.2) := by
  unfold J0 at h
  refine q_op (dst := some 19) rfl (fun _ ho => ok_move ho (.tmp rfl)) ?_
  rcases ifc h with ⟨hc4, h⟩ | ⟨hc4, h⟩
  · refine q_skip (dst := some 20) (t := 19) rfl rfl rfl hc4 ?_
    refine q_skip (dst := some 21) (t := 19) rfl rfl rfl hc4 ?_
    refine q_skip (dst := some 22) (t := 19) rfl rfl rfl hc4 ?_
    try simp only [HAct.put, List.set_cons_zero, List.set_cons_succ]
    refine q_op (dst := some 23) rfl (fun _ ho => ok_pick_tt ho (.tmp rfl) hc4 (.bool _)) ?_
    refine hr_region_end ?_
    try simp only [HAct.put, List.set_cons_zero, List.set_cons_succ]
    try simp only [HAct.put, List.set_cons_zero, List.set_cons_succ]
    exact J1_snd  h
  · refine q_op_g (t := 19) (dst := some 20) rfl rfl rfl (bfalse hc4) (fun _ ho => ok_move ho (.tmp rfl)) ?_
    refine q_op_g (t := 19) (dst := some 21) rfl rfl rfl (bfalse hc4) (fun _ ho => ok_len_str ho rfl tu9 (.tmp rfl)) ?_
    refine q_op_g (t := 19) (dst := some 22) rfl rfl rfl (bfalse hc4) (fun _ ho => ok_ibin ho (.tmp rfl) (.int _ _) rfl) ?_
    try simp only [HAct.put, List.set_cons_zero, List.set_cons_succ]
    refine q_op (dst := some 23) rfl (fun _ ho => ok_pick_ff ho (.tmp rfl) (bfalse hc4) (.tmp rfl)) ?_
    refine hr_region_end ?_
    try simp only [HAct.put, List.set_cons_zero, List.set_cons_succ]
    try simp only [HAct.put, List.set_cons_zero, List.set_cons_succ]
    exact J1_snd  h
def f (k : Nat) (x0 : (List UInt8)) (x1 : (List UInt8)) (x2 : (List UInt8)) (S : HS) : Option ((Bool) × HS) :=
  (Option.bind (rollcalllaw01_awake.f k S) fun p1 =>
  (if (!p1.1) = true then
  some (false, p1.2) else
  (if (List.length x0 : Int) > 60 then
  J0 k x0 x1 x2 true p1.2 else
  J0 k x0 x1 x2 (decide ((List.length x1 : Int) > 60)) p1.2)))
theorem snd {k : Nat} {x0 : (List UInt8)} {x1 : (List UInt8)} {x2 : (List UInt8)} {S : HS}  {p : (Bool) × HS} (h : f k x0 x1 x2 S = some p) : HCall Try.prog base W0 β0 7 [(.str x0), (.str x1), (.str x2)] S (fun v S1 => v = (.bool p.1) ∧ S1 = p.2) := by
  unfold f at h
  refine HCall.of_run at_.at_ body ?_
  show HRun Try.prog base W0 β0 7 none [.code c0] ⟨[(.str x0), (.str x1), (.str x2), .tup [], .tup [], .tup [], .tup [], .tup [], .tup [], .tup [], .tup [], .tup [], .tup [], .tup [], .tup [], .tup [], .tup [], .tup [], .tup [], .tup [], .tup [], .tup [], .tup [], .tup [], .tup [], .tup [], .tup [], .tup [], .tup [], .tup [], .tup [], .tup [], .tup [], .tup [], .tup [], .tup [], .tup [], .tup [], .tup [], .tup [], .tup [], .tup [], .tup [], .tup [], .tup [], .tup [], .tup [], .tup [], .tup [], .tup [], .tup [], .tup [], .tup [], .tup [], .tup [], .tup [], .tup [], .tup [], .tup [], .tup [], .tup [], .tup [], .tup [], .tup [], .tup [], .tup [], .tup [], .tup [], .tup [], .tup [], .tup [], .tup [], .tup [], .tup [], .tup [], .tup [], .tup [], .tup [], .tup [], .tup [], .tup [], .tup [], .tup [], .tup [], .tup [], .tup [], .tup [], .tup [], .tup [], .tup [], .tup []], []⟩ S _
  refine q_seq e0 ?_
  refine q_region e1 rfl ?_
  refine q_op (dst := some 6) rfl (fun _ ho => ok_assign ho (.bool _)) ?_
  refine hr_region_end ?_
  try simp only [HAct.put, List.set_cons_zero, List.set_cons_succ]
  refine q_seq e2 ?_
  refine q_seq e3 ?_
  refine q_region e4 rfl ?_
  obtain ⟨p1, hp1, h⟩ := bindo h
  refine q_call (dst := some 9) rfl (.func _) Evs.nil (HInv.static rollcalllaw01_awake.at_ rollcalllaw01_awake.body (rollcalllaw01_awake.snd  hp1)) ?_
  rintro _ _ ⟨rfl, rfl⟩
  refine q_op (dst := some 10) rfl (fun _ ho => ok_not ho (.tmp rfl)) ?_
  refine hr_region_end ?_
  try simp only [HAct.put, List.set_cons_zero, List.set_cons_succ]
  rcases ifc h with ⟨hc2, h⟩ | ⟨hc2, h⟩
  · refine q_cond_t e5 (.tmp rfl) hc2 ?_
    refine q_seq e6 ?_
    refine q_region e7 rfl ?_
    refine q_op (dst := some 6) rfl (fun _ ho => ok_assign ho (.bool _)) ?_
    refine hr_region_end ?_
    try simp only [HAct.put, List.set_cons_zero, List.set_cons_succ]
    cases h
    exact q_ret e8 at_.at_ rfl (res1 rfl rfl) ⟨rfl, rfl⟩
  · refine q_cond_f e5 (.tmp rfl) (bfalse hc2) ?_
    refine q_skipc e9 ?_
    refine q_seq e10 ?_
    refine q_seq e11 ?_
    refine q_region e12 rfl ?_
    refine q_op (dst := some 11) rfl (fun _ ho => ok_move ho (.tmp rfl)) ?_
    refine q_op (dst := some 12) rfl (fun _ ho => ok_len_str ho rfl tu9 (.tmp rfl)) ?_
    refine q_op (dst := some 13) rfl (fun _ ho => ok_ibin ho (.tmp rfl) (.int _ _) rfl) ?_
    refine q_op (dst := some 14) rfl (fun _ ho => ok_move ho (.tmp rfl)) ?_
    try simp only [HAct.put, List.set_cons_zero, List.set_cons_succ]
    rcases ifc h with ⟨hc3, h⟩ | ⟨hc3, h⟩
    · refine q_skip (dst := some 15) (t := 14) rfl rfl rfl (decide_eq_true hc3) ?_
      refine q_skip (dst := some 16) (t := 14) rfl rfl rfl (decide_eq_true hc3) ?_
      refine q_skip (dst := some 17) (t := 14) rfl rfl rfl (decide_eq_true hc3) ?_
      refine q_op (dst := some 18) rfl (fun _ ho => ok_pick_tt ho (.tmp rfl) (decide_eq_true hc3) (.bool _)) ?_
      try simp only [HAct.put, List.set_cons_zero, List.set_cons_succ]
      try simp only [HAct.put, List.set_cons_zero, List.set_cons_succ]
      exact J0_snd  h
    · refine q_op_g (t := 14) (dst := some 15) rfl rfl rfl (decide_eq_false hc3) (fun _ ho => ok_move ho (.tmp rfl)) ?_
      refine q_op_g (t := 14) (dst := some 16) rfl rfl rfl (decide_eq_false hc3) (fun _ ho => ok_len_str ho rfl tu9 (.tmp rfl)) ?_
      refine q_op_g (t := 14) (dst := some 17) rfl rfl rfl (decide_eq_false hc3) (fun _ ho => ok_ibin ho (.tmp rfl) (.int _ _) rfl) ?_
      refine q_op (dst := some 18) rfl (fun _ ho => ok_pick_ff ho (.tmp rfl) (decide_eq_false hc3) (.tmp rfl)) ?_
      try simp only [HAct.put, List.set_cons_zero, List.set_cons_succ]
      try simp only [HAct.put, List.set_cons_zero, List.set_cons_succ]
      exact J0_snd  h
end
end rollcalllaw01_FoldOrder
namespace fold_Runs_1
abbrev id : Nat := 20
theorem at_ : FnAt Try.prog 20 Try.f20 := ⟨Try.func20, by kernel_rfl⟩
noncomputable def c0 : Code := (Try.f20.body).getD .skip
noncomputable def c1 : Code := match c0 with | .scope x => x | _ => .skip
noncomputable def c2 : Code := match c1 with | .seq x _ => x | _ => .skip
noncomputable def c3 : Code := match c1 with | .seq _ x => x | _ => .skip
noncomputable def c4 : Code := match c3 with | .seq x _ => x | _ => .skip
noncomputable def c5 : Code := match c3 with | .seq _ x => x | _ => .skip
noncomputable def c6 : Code := match c5 with | .seq x _ => x | _ => .skip
noncomputable def c7 : Code := match c5 with | .seq _ x => x | _ => .skip
noncomputable def c8 : Code := match c7 with | .block _ x => x | _ => .skip
noncomputable def c9 : Code := match c8 with | .loop x => x | _ => .skip
noncomputable def c10 : Code := match c9 with | .seq x _ => x | _ => .skip
noncomputable def c11 : Code := match c9 with | .seq _ x => x | _ => .skip
noncomputable def c12 : Code := match c11 with | .seq x _ => x | _ => .skip
noncomputable def c13 : Code := match c12 with | .cond _ x _ => x | _ => .skip
noncomputable def c14 : Code := match c12 with | .cond _ _ x => x | _ => .skip
noncomputable def c15 : Code := match c11 with | .seq _ x => x | _ => .skip
noncomputable def c16 : Code := match c15 with | .seq x _ => x | _ => .skip
noncomputable def c17 : Code := match c16 with | .block _ x => x | _ => .skip
noncomputable def c18 : Code := match c17 with | .seq x _ => x | _ => .skip
noncomputable def c19 : Code := match c17 with | .seq _ x => x | _ => .skip
noncomputable def c20 : Code := match c19 with | .seq x _ => x | _ => .skip
noncomputable def c21 : Code := match c20 with | .seq x _ => x | _ => .skip
noncomputable def c22 : Code := match c20 with | .seq _ x => x | _ => .skip
noncomputable def c23 : Code := match c22 with | .cond _ x _ => x | _ => .skip
noncomputable def c24 : Code := match c22 with | .cond _ _ x => x | _ => .skip
noncomputable def c25 : Code := match c19 with | .seq _ x => x | _ => .skip
noncomputable def c26 : Code := match c25 with | .seq x _ => x | _ => .skip
noncomputable def c27 : Code := match c26 with | .seq x _ => x | _ => .skip
noncomputable def c28 : Code := match c26 with | .seq _ x => x | _ => .skip
noncomputable def c29 : Code := match c28 with | .cond _ x _ => x | _ => .skip
noncomputable def c30 : Code := match c28 with | .cond _ _ x => x | _ => .skip
noncomputable def c31 : Code := match c25 with | .seq _ x => x | _ => .skip
noncomputable def c32 : Code := match c15 with | .seq _ x => x | _ => .skip
theorem e0 : c0 = .scope c1 := by kernel_rfl
theorem e1 : c1 = .seq c2 c3 := by kernel_rfl
noncomputable def r2 : Array Oper := match c2 with | .region _ x _ => x | _ => #[]
theorem e2 : c2 = .region 0 r2 false := by kernel_rfl
theorem e3 : c3 = .seq c4 c5 := by kernel_rfl
theorem e4 : c4 = .label 0 := by kernel_rfl
theorem e5 : c5 = .seq c6 c7 := by kernel_rfl
noncomputable def r6 : Array Oper := match c6 with | .region _ x _ => x | _ => #[]
theorem e6 : c6 = .region 1 r6 false := by kernel_rfl
theorem e7 : c7 = .block 0 c8 := by kernel_rfl
theorem e8 : c8 = .loop c9 := by kernel_rfl
theorem e9 : c9 = .seq c10 c11 := by kernel_rfl
noncomputable def r10 : Array Oper := match c10 with | .region _ x _ => x | _ => #[]
theorem e10 : c10 = .region 2 r10 false := by kernel_rfl
theorem e11 : c11 = .seq c12 c15 := by kernel_rfl
theorem e12 : c12 = .cond (.tmp 8) c13 c14 := by kernel_rfl
theorem e13 : c13 = .skip := by kernel_rfl
theorem e14 : c14 = .exit 0 := by kernel_rfl
theorem e15 : c15 = .seq c16 c32 := by kernel_rfl
theorem e16 : c16 = .block 1 c17 := by kernel_rfl
theorem e17 : c17 = .seq c18 c19 := by kernel_rfl
noncomputable def r18 : Array Oper := match c18 with | .region _ x _ => x | _ => #[]
theorem e18 : c18 = .region 3 r18 false := by kernel_rfl
theorem e19 : c19 = .seq c20 c25 := by kernel_rfl
theorem e20 : c20 = .seq c21 c22 := by kernel_rfl
noncomputable def r21 : Array Oper := match c21 with | .region _ x _ => x | _ => #[]
theorem e21 : c21 = .region 4 r21 true := by kernel_rfl
theorem e22 : c22 = .cond (.tmp 35) c23 c24 := by kernel_rfl
theorem e23 : c23 = .exit 1 := by kernel_rfl
theorem e24 : c24 = .skip := by kernel_rfl
theorem e25 : c25 = .seq c26 c31 := by kernel_rfl
theorem e26 : c26 = .seq c27 c28 := by kernel_rfl
noncomputable def r27 : Array Oper := match c27 with | .region _ x _ => x | _ => #[]
theorem e27 : c27 = .region 5 r27 true := by kernel_rfl
theorem e28 : c28 = .cond (.tmp 51) c29 c30 := by kernel_rfl
theorem e29 : c29 = .ret := by kernel_rfl
theorem e30 : c30 = .skip := by kernel_rfl
noncomputable def r31 : Array Oper := match c31 with | .region _ x _ => x | _ => #[]
theorem e31 : c31 = .region 6 r31 false := by kernel_rfl
noncomputable def r32 : Array Oper := match c32 with | .region _ x _ => x | _ => #[]
theorem e32 : c32 = .region 7 r32 false := by kernel_rfl
theorem body : Try.f20.body = some c0 := by kernel_rfl
section
variable {base : Nat} {W0 : World} {β0 : Bt}
def J2 (D : Dp) (H : Hd) (k : Nat) (rec0 : HV → (Option HA) → Int → Int → Int → HS → Option ((Unit) × HS)) (y0 : HV) (y1 : (Option HA)) (y3 : Int) (y6 : Int) (y7 : Int) (S : HS) : Option ((Unit) × HS) :=
  rec0 y0 y1 y3 y6 (w64 (y7 + 1)) S
theorem J2_snd {D : Dp} {H : Hd} {k : Nat} {rec0 : HV → (Option HA) → Int → Int → Int → HS → Option ((Unit) × HS)} (hD : DSound Try.prog base W0 D) (hH : HSound Try.prog base W0 β0 H) (hrec0 : ∀ ⦃y0 : HV⦄ ⦃y1 : (Option HA)⦄ ⦃y3 : Int⦄ ⦃y6 : Int⦄ ⦃y7 : Int⦄ ⦃S : HS⦄ ⦃p : (Unit) × HS⦄ ⦃g2 g4 g5 g8 g9 g10 g11 g12 g13 g14 g15 g16 g17 g18 g19 g20 g21 g22 g23 g24 g25 g26 g27 g28 g29 g30 g31 g32 g33 g34 g35 g36 g37 g38 g39 g40 g41 g42 g43 g44 g45 g46 g47 g48 g49 g50 g51 g52 g53 g54 : HV⦄, rec0 y0 y1 y3 y6 y7 S = some p → HRun Try.prog base W0 β0 20 none [.inLoop c9, .inBlock 0, .inScope c1] ⟨[y0, (.ptr y1), g2, (.int .i64 y3), g4, g5, (.int .i64 y6), (.int .i64 y7), g8, g9, g10, g11, g12, g13, g14, g15, g16, g17, g18, g19, g20, g21, g22, g23, g24, g25, g26, g27, g28, g29, g30, g31, g32, g33, g34, g35, g36, g37, g38, g39, g40, g41, g42, g43, g44, g45, g46, g47, g48, g49, g50, g51, g52, g53, g54], []⟩ S (fun v S1 => v = (.tup []) ∧ S1 = p.2)) {y0 : HV} {y1 : (Option HA)} {y3 : Int} {y6 : Int} {y7 : Int} {S : HS} {p : (Unit) × HS} {g2 g4 g5 g8 g9 g10 g11 g12 g13 g14 g15 g16 g17 g18 g19 g20 g21 g22 g23 g24 g25 g26 g27 g28 g29 g30 g31 g32 g33 g34 g35 g36 g37 g38 g39 g40 g41 g42 g43 g44 g45 g46 g47 g48 g49 g50 g51 g52 g53 g54 : HV} (h : J2 D H k rec0 y0 y1 y3 y6 y7 S = some p) : HRun Try.prog base W0 β0 20 none [.code c32, .inLoop c9, .inBlock 0, .inScope c1] ⟨[y0, (.ptr y1), g2, (.int .i64 y3), g4, g5, (.int .i64 y6), (.int .i64 y7), g8, g9, g10, g11, g12, g13, g14, g15, g16, g17, g18, g19, g20, g21, g22, g23, g24, g25, g26, g27, g28, g29, g30, g31, g32, g33, g34, g35, g36, g37, g38, g39, g40, g41, g42, g43, g44, g45, g46, g47, g48, g49, g50, g51, g52, g53, g54], []⟩ S (fun v S1 => v = (.tup []) ∧ S1 = p.2) := by
  unfold J2 at h
  refine q_region e32 rfl ?_
  refine q_op (dst := some 54) rfl (fun _ ho => ok_ibin ho (.tmp rfl) (.int _ _) rfl) ?_
  refine q_op (dst := some 7) rfl (fun _ ho => ok_move ho (.tmp rfl)) ?_
  refine hr_region_end ?_
  try simp only [HAct.put, List.set_cons_zero, List.set_cons_succ]
  try simp only [HAct.put, List.set_cons_zero, List.set_cons_succ]
  exact hrec0 h
def J1 (D : Dp) (H : Hd) (k : Nat) (rec0 : HV → (Option HA) → Int → Int → Int → HS → Option ((Unit) × HS)) (y0 : HV) (y1 : (Option HA)) (y3 : Int) (y4 : Int) (y6 : Int) (y7 : Int) (y35 : Bool) (S : HS) : Option ((Unit) × HS) :=
  (if y35 = true then
  J2 D H k rec0 y0 y1 y3 y6 y7 S else
  (Option.bind (y1) fun p22 =>
  (Option.bind (HS.ldS S p22) fun p23 =>
  (if 0 ≤ (y3 : Int) ∧ (y3 : Int) ≤ (w64 (y4 + 1)) ∧ ((w64 (y4 + 1)) : Int) ≤ (List.length p23 : Int) then
  (Option.bind (y1) fun p25 =>
  (Option.bind (HS.ldS S p25) fun p26 =>
  (Option.bind (sat p26 y4) fun p27 =>
  (Option.bind (fold_Byte.f (UInt8.toNat p27 : Int)) fun p28 =>
  (Option.bind (y1) fun p29 =>
  (Option.bind (HS.ldS S p29) fun p30 =>
  (Option.bind (sat p30 y4) fun p31 =>
  (Option.bind (D H y0 [(.str (ssub p23 y3 (w64 (y4 + 1)))), (.bool (!decide (p28 = (UInt8.toNat p31 : Int))))] S) fun p32 =>
  (Option.bind (dB p32.1) fun p33 =>
  (if (!p33) = true then
  some ((), p32.2) else
  J2 D H k rec0 y0 y1 (w64 (y4 + 1)) y6 y7 p32.2)))))))))) else none))))
theorem J1_snd {D : Dp} {H : Hd} {k : Nat} {rec0 : HV → (Option HA) → Int → Int → Int → HS → Option ((Unit) × HS)} (hD : DSound Try.prog base W0 D) (hH : HSound Try.prog base W0 β0 H) (hrec0 : ∀ ⦃y0 : HV⦄ ⦃y1 : (Option HA)⦄ ⦃y3 : Int⦄ ⦃y6 : Int⦄ ⦃y7 : Int⦄ ⦃S : HS⦄ ⦃p : (Unit) × HS⦄ ⦃g2 g4 g5 g8 g9 g10 g11 g12 g13 g14 g15 g16 g17 g18 g19 g20 g21 g22 g23 g24 g25 g26 g27 g28 g29 g30 g31 g32 g33 g34 g35 g36 g37 g38 g39 g40 g41 g42 g43 g44 g45 g46 g47 g48 g49 g50 g51 g52 g53 g54 : HV⦄, rec0 y0 y1 y3 y6 y7 S = some p → HRun Try.prog base W0 β0 20 none [.inLoop c9, .inBlock 0, .inScope c1] ⟨[y0, (.ptr y1), g2, (.int .i64 y3), g4, g5, (.int .i64 y6), (.int .i64 y7), g8, g9, g10, g11, g12, g13, g14, g15, g16, g17, g18, g19, g20, g21, g22, g23, g24, g25, g26, g27, g28, g29, g30, g31, g32, g33, g34, g35, g36, g37, g38, g39, g40, g41, g42, g43, g44, g45, g46, g47, g48, g49, g50, g51, g52, g53, g54], []⟩ S (fun v S1 => v = (.tup []) ∧ S1 = p.2)) {y0 : HV} {y1 : (Option HA)} {y3 : Int} {y4 : Int} {y6 : Int} {y7 : Int} {y35 : Bool} {S : HS} {p : (Unit) × HS} {g2 g5 g8 g9 g10 g11 g12 g13 g14 g15 g16 g17 g18 g19 g20 g21 g22 g23 g24 g25 g26 g27 g28 g29 g30 g31 g32 g33 g34 g36 g37 g38 g39 g40 g41 g42 g43 g44 g45 g46 g47 g48 g49 g50 g51 g52 g53 g54 : HV} (h : J1 D H k rec0 y0 y1 y3 y4 y6 y7 y35 S = some p) : HRun Try.prog base W0 β0 20 none [.code c22, .code c25, .inBlock 1, .code c32, .inLoop c9, .inBlock 0, .inScope c1] ⟨[y0, (.ptr y1), g2, (.int .i64 y3), (.int .i64 y4), g5, (.int .i64 y6), (.int .i64 y7), g8, g9, g10, g11, g12, g13, g14, g15, g16, g17, g18, g19, g20, g21, g22, g23, g24, g25, g26, g27, g28, g29, g30, g31, g32, g33, g34, (.bool y35), g36, g37, g38, g39, g40, g41, g42, g43, g44, g45, g46, g47, g48, g49, g50, g51, g52, g53, g54], []⟩ S (fun v S1 => v = (.tup []) ∧ S1 = p.2) := by
  unfold J1 at h
  rcases ifc h with ⟨hc21, h⟩ | ⟨hc21, h⟩
  · refine q_cond_t e22 (.tmp rfl) hc21 ?_
    refine q_exit e23 rfl ?_
    try simp only [HAct.put, List.set_cons_zero, List.set_cons_succ]
    exact J2_snd hD hH hrec0 h
  · refine q_cond_f e22 (.tmp rfl) (bfalse hc21) ?_
    refine q_skipc e24 ?_
    refine q_seq e25 ?_
    refine q_seq e26 ?_
    refine x_start (cls := [0, 1, 0, 0, 0, 0, 1, 0, 0, 0, 1, 0, 0, 0, 2, 0]) (rk := [0, 1, 2, 3, 4, 5, 6, 7, 8, 9, 10, 11, 12, 13, 14, 15]) e27 (by kernel_rfl) ?_
    refine x_go (f_op (dst := some 36) (ts := [0]) rfl (by intro _ _ h; cases h) (by kernel_rfl) (fun _ _ ho => ok_move ho (.tmp rfl))) rfl ?_
    obtain ⟨p22, hp22, h⟩ := bindo h
    obtain ⟨p23, hp23, h⟩ := bindo h
    refine x_go (r_op (dst := some 37) (ts := [1]) rfl (by intro _ _ h; cases h) (by kernel_rfl) (fun _ ho => ok_load_s ho sc9 (.tmp rfl) hp22 (ldS_out hp23))) rfl ?_
    refine x_go (f_op (dst := some 38) (ts := [3]) rfl (by intro _ _ h; cases h) (by kernel_rfl) (fun _ _ ho => ok_move ho (.tmp rfl))) rfl ?_
    refine x_go (f_op (dst := some 39) (ts := [4]) rfl (by intro _ _ h; cases h) (by kernel_rfl) (fun _ _ ho => ok_move ho (.tmp rfl))) rfl ?_
    try simp only [HAct.put, List.set_cons_zero, List.set_cons_succ]
    refine x_go (f_op (dst := some 40) (ts := [39]) rfl (by intro _ _ h; cases h) (by kernel_rfl) (fun _ _ ho => ok_ibin ho (.tmp rfl) (.int _ _) rfl)) rfl ?_
    obtain ⟨hg24, h⟩ := gd h
    refine x_go (f_op (dst := some 41) (ts := [37, 38, 40]) rfl (by intro _ _ h; cases h) (by kernel_rfl) (fun _ _ ho => ok_slice_str (kl := .i64) (kh := .i64) (l := y3) (h := (w64 (y4 + 1))) ho tu9 (.tmp rfl) (.inr ⟨_, rfl, (.tmp rfl)⟩) (.inr ⟨_, rfl, (.tmp rfl)⟩) hg24.1 hg24.2.1 hg24.2.2)) rfl ?_
    obtain ⟨p25, hp25, h⟩ := bindo h
    obtain ⟨p26, hp26, h⟩ := bindo h
    refine x_go (r_op (dst := some 42) (ts := [1]) rfl (by intro _ _ h; cases h) (by kernel_rfl) (fun _ ho => ok_load_s ho sc9 (.tmp rfl) hp25 (ldS_out hp26))) rfl ?_
    refine x_go (f_op (dst := some 43) (ts := [4]) rfl (by intro _ _ h; cases h) (by kernel_rfl) (fun _ _ ho => ok_move ho (.tmp rfl))) rfl ?_
    try simp only [HAct.put, List.set_cons_zero, List.set_cons_succ]
    obtain ⟨p27, hp27, h⟩ := bindo h
    refine x_go (f_op (dst := some 44) (ts := [42, 43]) rfl (by intro _ _ h; cases h) (by kernel_rfl) (fun _ _ ho => ok_index_s ho tu9 (.tmp rfl) (.tmp rfl) hp27)) rfl ?_
    obtain ⟨p28, hp28, h⟩ := bindo h
    refine x_go (f_call (dst := some 45) (ts := [44]) rfl (by kernel_rfl) (.func _) (.cons (.tmp rfl) Evs.nil) (fun _ => (HInv.static fold_Byte.at_ fold_Byte.body (fold_Byte.snd  hp28)))) rfl ?_
    obtain ⟨p29, hp29, h⟩ := bindo h
    obtain ⟨p30, hp30, h⟩ := bindo h
    refine x_go (r_op (dst := some 46) (ts := [1]) rfl (by intro _ _ h; cases h) (by kernel_rfl) (fun _ ho => ok_load_s ho sc9 (.tmp rfl) hp29 (ldS_out hp30))) rfl ?_
    refine x_go (f_op (dst := some 47) (ts := [4]) rfl (by intro _ _ h; cases h) (by kernel_rfl) (fun _ _ ho => ok_move ho (.tmp rfl))) rfl ?_
    try simp only [HAct.put, List.set_cons_zero, List.set_cons_succ]
    obtain ⟨p31, hp31, h⟩ := bindo h
    refine x_go (f_op (dst := some 48) (ts := [46, 47]) rfl (by intro _ _ h; cases h) (by kernel_rfl) (fun _ _ ho => ok_index_s ho tu9 (.tmp rfl) (.tmp rfl) hp31)) rfl ?_
    refine x_go (f_op (dst := some 49) (ts := [45, 48]) rfl (by intro _ _ h; cases h) (by kernel_rfl) (fun _ _ ho => ok_ibin ho (.tmp rfl) (.tmp rfl) rfl)) rfl ?_
    obtain ⟨p32, hp32, h⟩ := bindo h
    obtain ⟨p33, hp33, h⟩ := bindo h
    have hi35 := (hD _ _ hH _ _ _ _ _ hp32)
    rw [dB_out hp33] at hi35
    refine x_go (e_call (dst := some 50) (ts := [36, 41, 49]) rfl (by kernel_rfl) (.tmp rfl) (.cons (.tmp rfl) (.cons (.tmp rfl) Evs.nil)) hi35) rfl ?_
    refine x_go (f_op (dst := some 51) (ts := [50]) rfl (by intro _ _ h; cases h) (by kernel_rfl) (fun _ _ ho => ok_not ho (.tmp rfl))) rfl ?_
    refine x_rest rfl ?_
    refine hr_region_end ?_
    try simp only [HAct.put, List.set_cons_zero, List.set_cons_succ]
    rcases ifc h with ⟨hc34, h⟩ | ⟨hc34, h⟩
    · refine q_cond_t e28 (.tmp rfl) hc34 ?_
      cases h
      exact q_ret e29 at_.at_ rfl (res0 rfl) ⟨rfl, rfl⟩
    · refine q_cond_f e28 (.tmp rfl) (bfalse hc34) ?_
      refine q_skipc e30 ?_
      refine q_region e31 rfl ?_
      refine q_op (dst := some 52) rfl (fun _ ho => ok_move ho (.tmp rfl)) ?_
      refine q_op (dst := some 53) rfl (fun _ ho => ok_ibin ho (.tmp rfl) (.int _ _) rfl) ?_
      refine q_op (dst := some 3) rfl (fun _ ho => ok_assign ho (.tmp rfl)) ?_
      refine hr_region_end ?_
      try simp only [HAct.put, List.set_cons_zero, List.set_cons_succ]
      refine hr_inBlock ?_
      try simp only [HAct.put, List.set_cons_zero, List.set_cons_succ]
      exact J2_snd hD hH hrec0 h
def L0 (D : Dp) (H : Hd) (k : Nat) : Nat → HV → (Option HA) → Int → Int → Int → HS → Option ((Unit) × HS)
  | 0, _, _, _, _, _, _ => none
  | n + 1, y0, y1, y3, y6, y7, S =>
    (if y7 < y6 then
    (Option.bind (y1) fun p4 =>
    (Option.bind (HS.ldS S p4) fun p5 =>
    (if (w64 (y7 + 1)) < (List.length p5 : Int) then
    (Option.bind (y1) fun p7 =>
    (Option.bind (HS.ldS S p7) fun p8 =>
    (Option.bind (sat p8 y7) fun p9 =>
    (Option.bind (fold_Byte.f (UInt8.toNat p9 : Int)) fun p10 =>
    (Option.bind (y1) fun p11 =>
    (Option.bind (HS.ldS S p11) fun p12 =>
    (Option.bind (sat p12 y7) fun p13 =>
    (Option.bind (y1) fun p14 =>
    (Option.bind (HS.ldS S p14) fun p15 =>
    (Option.bind (sat p15 (w64 (y7 + 1))) fun p16 =>
    (Option.bind (fold_Byte.f (UInt8.toNat p16 : Int)) fun p17 =>
    (Option.bind (y1) fun p18 =>
    (Option.bind (HS.ldS S p18) fun p19 =>
    (Option.bind (sat p19 (w64 (y7 + 1))) fun p20 =>
    J1 D H k (L0 D H k n) y0 y1 y3 y7 y6 y7 ((!decide (p10 = (UInt8.toNat p13 : Int))) == (!decide (p17 = (UInt8.toNat p20 : Int)))) S)))))))))))))) else
    J1 D H k (L0 D H k n) y0 y1 y3 y7 y6 y7 false S))) else
    some ((), S))
theorem L0_snd {D : Dp} {H : Hd} {k : Nat} (hD : DSound Try.prog base W0 D) (hH : HSound Try.prog base W0 β0 H)  : ∀ {n : Nat} ⦃y0 : HV⦄ ⦃y1 : (Option HA)⦄ ⦃y3 : Int⦄ ⦃y6 : Int⦄ ⦃y7 : Int⦄ ⦃S : HS⦄ ⦃p : (Unit) × HS⦄ ⦃g2 g4 g5 g8 g9 g10 g11 g12 g13 g14 g15 g16 g17 g18 g19 g20 g21 g22 g23 g24 g25 g26 g27 g28 g29 g30 g31 g32 g33 g34 g35 g36 g37 g38 g39 g40 g41 g42 g43 g44 g45 g46 g47 g48 g49 g50 g51 g52 g53 g54 : HV⦄, L0 D H k n y0 y1 y3 y6 y7 S = some p → HRun Try.prog base W0 β0 20 none [.inLoop c9, .inBlock 0, .inScope c1] ⟨[y0, (.ptr y1), g2, (.int .i64 y3), g4, g5, (.int .i64 y6), (.int .i64 y7), g8, g9, g10, g11, g12, g13, g14, g15, g16, g17, g18, g19, g20, g21, g22, g23, g24, g25, g26, g27, g28, g29, g30, g31, g32, g33, g34, g35, g36, g37, g38, g39, g40, g41, g42, g43, g44, g45, g46, g47, g48, g49, g50, g51, g52, g53, g54], []⟩ S (fun v S1 => v = (.tup []) ∧ S1 = p.2) := by
  intro n
  induction n with
  | zero => intro _ _ _ _ _ _ _ _ _ _ _ _ _ _ _ _ _ _ _ _ _ _ _ _ _ _ _ _ _ _ _ _ _ _ _ _ _ _ _ _ _ _ _ _ _ _ _ _ _ _ _ _ _ _ _ _ _ h; cases h
  | succ n ih =>
    intro y0 y1 y3 y6 y7 S p g2 g4 g5 g8 g9 g10 g11 g12 g13 g14 g15 g16 g17 g18 g19 g20 g21 g22 g23 g24 g25 g26 g27 g28 g29 g30 g31 g32 g33 g34 g35 g36 g37 g38 g39 g40 g41 g42 g43 g44 g45 g46 g47 g48 g49 g50 g51 g52 g53 g54 h
    simp only [L0] at h
    refine hr_inLoop ?_
    refine q_seq e9 ?_
    refine q_region e10 rfl ?_
    refine q_op (dst := some 8) rfl (fun _ ho => ok_ibin ho (.tmp rfl) (.tmp rfl) rfl) ?_
    refine hr_region_end ?_
    try simp only [HAct.put, List.set_cons_zero, List.set_cons_succ]
    refine q_seq e11 ?_
    rcases ifc h with ⟨hc3, h⟩ | ⟨hc3, h⟩
    · refine q_cond_t e12 (.tmp rfl) (decide_eq_true hc3) ?_
      refine q_skipc e13 ?_
      refine q_seq e15 ?_
      refine q_block e16 ?_
      refine q_seq e17 ?_
      refine q_region e18 rfl ?_
      refine q_op (dst := some 9) rfl (fun _ ho => ok_move ho (.tmp rfl)) ?_
      refine q_op (dst := some 4) rfl (fun _ ho => ok_assign ho (.tmp rfl)) ?_
      refine hr_region_end ?_
      try simp only [HAct.put, List.set_cons_zero, List.set_cons_succ]
      refine q_seq e19 ?_
      refine q_seq e20 ?_
      refine x_start (cls := [0, 0, 1, 0, 0, 0, 1, 0, 0, 0, 1, 0, 0, 0, 1, 0, 0, 0, 0, 1, 0, 0, 0, 0, 0, 0]) (rk := [0, 1, 2, 3, 4, 5, 6, 7, 8, 9, 10, 11, 12, 13, 14, 15, 16, 17, 18, 19, 20, 21, 22, 23, 24, 25]) e21 (by kernel_rfl) ?_
      refine x_go (f_op (dst := some 10) (ts := [4]) rfl (by intro _ _ h; cases h) (by kernel_rfl) (fun _ _ ho => ok_move ho (.tmp rfl))) rfl ?_
      refine x_go (f_op (dst := some 11) (ts := [10]) rfl (by intro _ _ h; cases h) (by kernel_rfl) (fun _ _ ho => ok_ibin ho (.tmp rfl) (.int _ _) rfl)) rfl ?_
      obtain ⟨p4, hp4, h⟩ := bindo h
      obtain ⟨p5, hp5, h⟩ := bindo h
      refine x_go (r_op (dst := some 12) (ts := [1]) rfl (by intro _ _ h; cases h) (by kernel_rfl) (fun _ ho => ok_load_s ho sc9 (.tmp rfl) hp4 (ldS_out hp5))) rfl ?_
      refine x_go (f_op (dst := some 13) (ts := [12]) rfl (by intro _ _ h; cases h) (by kernel_rfl) (fun _ _ ho => ok_len_str ho rfl tu9 (.tmp rfl))) rfl ?_
      try simp only [HAct.put, List.set_cons_zero, List.set_cons_succ]
      refine x_go (f_op (dst := some 14) (ts := [11, 13]) rfl (by intro _ _ h; cases h) (by kernel_rfl) (fun _ _ ho => ok_ibin ho (.tmp rfl) (.tmp rfl) rfl)) rfl ?_
      refine x_go (f_op (dst := some 15) (ts := [14]) rfl (by intro _ _ h; cases h) (by kernel_rfl) (fun _ _ ho => ok_move ho (.tmp rfl))) rfl ?_
      rcases ifc h with ⟨hc6, h⟩ | ⟨hc6, h⟩
      · obtain ⟨p7, hp7, h⟩ := bindo h
        obtain ⟨p8, hp8, h⟩ := bindo h
        refine x_go (r_op_g (dst := some 16) (t := 15) (ts := [1, 15]) rfl (by intro _ _ h; cases h) (by kernel_rfl) rfl rfl (decide_eq_true hc6) (fun _ ho => ok_load_s ho sc9 (.tmp rfl) hp7 (ldS_out hp8))) rfl ?_
        refine x_go (f_op_g (dst := some 17) (t := 15) (ts := [4, 15]) rfl (by intro _ _ h; cases h) (by kernel_rfl) rfl rfl (decide_eq_true hc6) (fun _ _ ho => ok_move ho (.tmp rfl))) rfl ?_
        try simp only [HAct.put, List.set_cons_zero, List.set_cons_succ]
        obtain ⟨p9, hp9, h⟩ := bindo h
        refine x_go (f_op_g (dst := some 18) (t := 15) (ts := [16, 17, 15]) rfl (by intro _ _ h; cases h) (by kernel_rfl) rfl rfl (decide_eq_true hc6) (fun _ _ ho => ok_index_s ho tu9 (.tmp rfl) (.tmp rfl) hp9)) rfl ?_
        obtain ⟨p10, hp10, h⟩ := bindo h
        refine x_go (f_call_g (dst := some 19) (t := 15) (ts := [18, 15]) rfl (by kernel_rfl) rfl rfl (decide_eq_true hc6) (.func _) (.cons (.tmp rfl) Evs.nil) (fun _ => (HInv.static fold_Byte.at_ fold_Byte.body (fold_Byte.snd  hp10)))) rfl ?_
        obtain ⟨p11, hp11, h⟩ := bindo h
        obtain ⟨p12, hp12, h⟩ := bindo h
        refine x_go (r_op_g (dst := some 20) (t := 15) (ts := [1, 15]) rfl (by intro _ _ h; cases h) (by kernel_rfl) rfl rfl (decide_eq_true hc6) (fun _ ho => ok_load_s ho sc9 (.tmp rfl) hp11 (ldS_out hp12))) rfl ?_
        refine x_go (f_op_g (dst := some 21) (t := 15) (ts := [4, 15]) rfl (by intro _ _ h; cases h) (by kernel_rfl) rfl rfl (decide_eq_true hc6) (fun _ _ ho => ok_move ho (.tmp rfl))) rfl ?_
        try simp only [HAct.put, List.set_cons_zero, List.set_cons_succ]
        obtain ⟨p13, hp13, h⟩ := bindo h
        refine x_go (f_op_g (dst := some 22) (t := 15) (ts := [20, 21, 15]) rfl (by intro _ _ h; cases h) (by kernel_rfl) rfl rfl (decide_eq_true hc6) (fun _ _ ho => ok_index_s ho tu9 (.tmp rfl) (.tmp rfl) hp13)) rfl ?_
        refine x_go (f_op_g (dst := some 23) (t := 15) (ts := [19, 22, 15]) rfl (by intro _ _ h; cases h) (by kernel_rfl) rfl rfl (decide_eq_true hc6) (fun _ _ ho => ok_ibin ho (.tmp rfl) (.tmp rfl) rfl)) rfl ?_
        obtain ⟨p14, hp14, h⟩ := bindo h
        obtain ⟨p15, hp15, h⟩ := bindo h
        refine x_go (r_op_g (dst := some 24) (t := 15) (ts := [1, 15]) rfl (by intro _ _ h; cases h) (by kernel_rfl) rfl rfl (decide_eq_true hc6) (fun _ ho => ok_load_s ho sc9 (.tmp rfl) hp14 (ldS_out hp15))) rfl ?_
        refine x_go (f_op_g (dst := some 25) (t := 15) (ts := [4, 15]) rfl (by intro _ _ h; cases h) (by kernel_rfl) rfl rfl (decide_eq_true hc6) (fun _ _ ho => ok_move ho (.tmp rfl))) rfl ?_
        try simp only [HAct.put, List.set_cons_zero, List.set_cons_succ]
        refine x_go (f_op_g (dst := some 26) (t := 15) (ts := [25, 15]) rfl (by intro _ _ h; cases h) (by kernel_rfl) rfl rfl (decide_eq_true hc6) (fun _ _ ho => ok_ibin ho (.tmp rfl) (.int _ _) rfl)) rfl ?_
        obtain ⟨p16, hp16, h⟩ := bindo h
        refine x_go (f_op_g (dst := some 27) (t := 15) (ts := [24, 26, 15]) rfl (by intro _ _ h; cases h) (by kernel_rfl) rfl rfl (decide_eq_true hc6) (fun _ _ ho => ok_index_s ho tu9 (.tmp rfl) (.tmp rfl) hp16)) rfl ?_
        obtain ⟨p17, hp17, h⟩ := bindo h
        refine x_go (f_call_g (dst := some 28) (t := 15) (ts := [27, 15]) rfl (by kernel_rfl) rfl rfl (decide_eq_true hc6) (.func _) (.cons (.tmp rfl) Evs.nil) (fun _ => (HInv.static fold_Byte.at_ fold_Byte.body (fold_Byte.snd  hp17)))) rfl ?_
        obtain ⟨p18, hp18, h⟩ := bindo h
        obtain ⟨p19, hp19, h⟩ := bindo h
        refine x_go (r_op_g (dst := some 29) (t := 15) (ts := [1, 15]) rfl (by intro _ _ h; cases h) (by kernel_rfl) rfl rfl (decide_eq_true hc6) (fun _ ho => ok_load_s ho sc9 (.tmp rfl) hp18 (ldS_out hp19))) rfl ?_
        try simp only [HAct.put, List.set_cons_zero, List.set_cons_succ]
        refine x_go (f_op_g (dst := some 30) (t := 15) (ts := [4, 15]) rfl (by intro _ _ h; cases h) (by kernel_rfl) rfl rfl (decide_eq_true hc6) (fun _ _ ho => ok_move ho (.tmp rfl))) rfl ?_
        refine x_go (f_op_g (dst := some 31) (t := 15) (ts := [30, 15]) rfl (by intro _ _ h; cases h) (by kernel_rfl) rfl rfl (decide_eq_true hc6) (fun _ _ ho => ok_ibin ho (.tmp rfl) (.int _ _) rfl)) rfl ?_
        obtain ⟨p20, hp20, h⟩ := bindo h
        refine x_go (f_op_g (dst := some 32) (t := 15) (ts := [29, 31, 15]) rfl (by intro _ _ h; cases h) (by kernel_rfl) rfl rfl (decide_eq_true hc6) (fun _ _ ho => ok_index_s ho tu9 (.tmp rfl) (.tmp rfl) hp20)) rfl ?_
        refine x_go (f_op_g (dst := some 33) (t := 15) (ts := [28, 32, 15]) rfl (by intro _ _ h; cases h) (by kernel_rfl) rfl rfl (decide_eq_true hc6) (fun _ _ ho => ok_ibin ho (.tmp rfl) (.tmp rfl) rfl)) rfl ?_
        try simp only [HAct.put, List.set_cons_zero, List.set_cons_succ]
        refine x_go (f_op_g (dst := some 34) (t := 15) (ts := [23, 33, 15]) rfl (by intro _ _ h; cases h) (by kernel_rfl) rfl rfl (decide_eq_true hc6) (fun _ _ ho => ok_beq ho tu4 (.inl ⟨rfl, rfl⟩) (.tmp rfl) (.tmp rfl))) rfl ?_
        refine x_go (f_op (dst := some 35) (ts := [15, 34]) rfl (by intro _ _ h; cases h) (by kernel_rfl) (fun _ _ ho => ok_pick_tt ho (.tmp rfl) (decide_eq_true hc6) (.tmp rfl))) rfl ?_
        refine x_rest rfl ?_
        refine hr_region_end ?_
        try simp only [HAct.put, List.set_cons_zero, List.set_cons_succ]
        try simp only [HAct.put, List.set_cons_zero, List.set_cons_succ]
        exact J1_snd hD hH ih h
      · refine x_go (r_skip (dst := some 16) (t := 15) (ts := [1, 15]) rfl (by kernel_rfl) rfl rfl (decide_eq_false hc6)) rfl ?_
        refine x_go (f_skip (dst := some 17) (t := 15) (ts := [4, 15]) rfl (by kernel_rfl) rfl rfl (decide_eq_false hc6)) rfl ?_
        try simp only [HAct.put, List.set_cons_zero, List.set_cons_succ]
        refine x_go (f_skip (dst := some 18) (t := 15) (ts := [16, 17, 15]) rfl (by kernel_rfl) rfl rfl (decide_eq_false hc6)) rfl ?_
        refine x_go (f_skip (dst := some 19) (t := 15) (ts := [18, 15]) rfl (by kernel_rfl) rfl rfl (decide_eq_false hc6)) rfl ?_
        refine x_go (r_skip (dst := some 20) (t := 15) (ts := [1, 15]) rfl (by kernel_rfl) rfl rfl (decide_eq_false hc6)) rfl ?_
        refine x_go (f_skip (dst := some 21) (t := 15) (ts := [4, 15]) rfl (by kernel_rfl) rfl rfl (decide_eq_false hc6)) rfl ?_
        try simp only [HAct.put, List.set_cons_zero, List.set_cons_succ]
        refine x_go (f_skip (dst := some 22) (t := 15) (ts := [20, 21, 15]) rfl (by kernel_rfl) rfl rfl (decide_eq_false hc6)) rfl ?_
        refine x_go (f_skip (dst := some 23) (t := 15) (ts := [19, 22, 15]) rfl (by kernel_rfl) rfl rfl (decide_eq_false hc6)) rfl ?_
        refine x_go (r_skip (dst := some 24) (t := 15) (ts := [1, 15]) rfl (by kernel_rfl) rfl rfl (decide_eq_false hc6)) rfl ?_
        refine x_go (f_skip (dst := some 25) (t := 15) (ts := [4, 15]) rfl (by kernel_rfl) rfl rfl (decide_eq_false hc6)) rfl ?_
        try simp only [HAct.put, List.set_cons_zero, List.set_cons_succ]
        refine x_go (f_skip (dst := some 26) (t := 15) (ts := [25, 15]) rfl (by kernel_rfl) rfl rfl (decide_eq_false hc6)) rfl ?_
        refine x_go (f_skip (dst := some 27) (t := 15) (ts := [24, 26, 15]) rfl (by kernel_rfl) rfl rfl (decide_eq_false hc6)) rfl ?_
        refine x_go (f_skip (dst := some 28) (t := 15) (ts := [27, 15]) rfl (by kernel_rfl) rfl rfl (decide_eq_false hc6)) rfl ?_
        refine x_go (r_skip (dst := some 29) (t := 15) (ts := [1, 15]) rfl (by kernel_rfl) rfl rfl (decide_eq_false hc6)) rfl ?_
        try simp only [HAct.put, List.set_cons_zero, List.set_cons_succ]
        refine x_go (f_skip (dst := some 30) (t := 15) (ts := [4, 15]) rfl (by kernel_rfl) rfl rfl (decide_eq_false hc6)) rfl ?_
        refine x_go (f_skip (dst := some 31) (t := 15) (ts := [30, 15]) rfl (by kernel_rfl) rfl rfl (decide_eq_false hc6)) rfl ?_
        refine x_go (f_skip (dst := some 32) (t := 15) (ts := [29, 31, 15]) rfl (by kernel_rfl) rfl rfl (decide_eq_false hc6)) rfl ?_
        refine x_go (f_skip (dst := some 33) (t := 15) (ts := [28, 32, 15]) rfl (by kernel_rfl) rfl rfl (decide_eq_false hc6)) rfl ?_
        try simp only [HAct.put, List.set_cons_zero, List.set_cons_succ]
        refine x_go (f_skip (dst := some 34) (t := 15) (ts := [23, 33, 15]) rfl (by kernel_rfl) rfl rfl (decide_eq_false hc6)) rfl ?_
        refine x_go (f_op (dst := some 35) (ts := [15, 34]) rfl (by intro _ _ h; cases h) (by kernel_rfl) (fun _ _ ho => ok_pick_ff ho (.tmp rfl) (decide_eq_false hc6) (.bool _))) rfl ?_
        refine x_rest rfl ?_
        refine hr_region_end ?_
        try simp only [HAct.put, List.set_cons_zero, List.set_cons_succ]
        try simp only [HAct.put, List.set_cons_zero, List.set_cons_succ]
        exact J1_snd hD hH ih h
    · refine q_cond_f e12 (.tmp rfl) (decide_eq_false hc3) ?_
      refine q_exit e14 rfl ?_
      refine hr_inScope ?_
      cases h
      exact q_end at_.at_ rfl (res0 rfl) ⟨rfl, rfl⟩
def f (D : Dp) (H : Hd) (k : Nat) (x0 : HV) (x1 : (Option HA)) (S : HS) : Option ((Unit) × HS) :=
  (Option.bind (x1) fun p1 =>
  (Option.bind (HS.ldS S p1) fun p2 =>
  L0 D H k k x0 x1 0 (List.length p2 : Int) 0 S))
theorem snd {D : Dp} {H : Hd} {k : Nat} {x0 : HV} {x1 : (Option HA)} {S : HS} (hD : DSound Try.prog base W0 D) (hH : HSound Try.prog base W0 β0 H)  {p : (Unit) × HS} (h : f D H k x0 x1 S = some p) : HCall Try.prog base W0 β0 20 [x0, (.ptr x1)] S (fun v S1 => v = (.tup []) ∧ S1 = p.2) := by
  unfold f at h
  refine HCall.of_run at_.at_ body ?_
  show HRun Try.prog base W0 β0 20 none [.code c0] ⟨[x0, (.ptr x1), .tup [], .tup [], .tup [], .tup [], .tup [], .tup [], .tup [], .tup [], .tup [], .tup [], .tup [], .tup [], .tup [], .tup [], .tup [], .tup [], .tup [], .tup [], .tup [], .tup [], .tup [], .tup [], .tup [], .tup [], .tup [], .tup [], .tup [], .tup [], .tup [], .tup [], .tup [], .tup [], .tup [], .tup [], .tup [], .tup [], .tup [], .tup [], .tup [], .tup [], .tup [], .tup [], .tup [], .tup [], .tup [], .tup [], .tup [], .tup [], .tup [], .tup [], .tup [], .tup [], .tup []], []⟩ S _
  refine q_scope e0 ?_
  refine q_seq e1 ?_
  refine q_region e2 rfl ?_
  refine q_op (dst := some 3) rfl (fun _ ho => ok_assign ho (.int _ _)) ?_
  refine hr_region_end ?_
  try simp only [HAct.put, List.set_cons_zero, List.set_cons_succ]
  refine q_seq e3 ?_
  refine q_label e4 ?_
  refine q_seq e5 ?_
  refine q_region e6 rfl ?_
  obtain ⟨p1, hp1, h⟩ := bindo h
  obtain ⟨p2, hp2, h⟩ := bindo h
  refine q_op (dst := some 5) rfl (fun _ ho => ok_load_s ho sc9 (.tmp rfl) hp1 (ldS_out hp2)) ?_
  refine q_op (dst := some 6) rfl (fun _ ho => ok_len_str ho rfl tu9 (.tmp rfl)) ?_
  refine q_op (dst := some 7) rfl (fun _ ho => ok_move ho (.int _ _)) ?_
  refine hr_region_end ?_
  try simp only [HAct.put, List.set_cons_zero, List.set_cons_succ]
  refine q_block e7 ?_
  refine q_loop e8 ?_
  try simp only [HAct.put, List.set_cons_zero, List.set_cons_succ]
  exact L0_snd hD hH h
end
end fold_Runs_1
namespace fold_Runs
abbrev id : Nat := 19
theorem at_ : FnAt Try.prog 19 Try.f19 := ⟨Try.func19, by kernel_rfl⟩
noncomputable def c0 : Code := (Try.f19.body).getD .skip
noncomputable def c1 : Code := match c0 with | .seq x _ => x | _ => .skip
noncomputable def c2 : Code := match c0 with | .seq _ x => x | _ => .skip
noncomputable def c3 : Code := match c2 with | .seq x _ => x | _ => .skip
noncomputable def c4 : Code := match c2 with | .seq _ x => x | _ => .skip
theorem e0 : c0 = .seq c1 c2 := by kernel_rfl
noncomputable def r1 : Array Oper := match c1 with | .region _ x _ => x | _ => #[]
theorem e1 : c1 = .region 0 r1 false := by kernel_rfl
theorem e2 : c2 = .seq c3 c4 := by kernel_rfl
noncomputable def r3 : Array Oper := match c3 with | .region _ x _ => x | _ => #[]
theorem e3 : c3 = .region 1 r3 false := by kernel_rfl
theorem e4 : c4 = .ret := by kernel_rfl
theorem body : Try.f19.body = some c0 := by kernel_rfl
section
variable {base : Nat} {W0 : World} {β0 : Bt}
def f (x0 : (List UInt8)) (S : HS) : Option ((HV) × HS) :=
  (letv (HS.new S (.cells 1 [[(.str x0)]] true)) fun p1 =>
  some ((HV.fn (.func 20) [] [(.ptr (some (HA.cell0 S.next)))]), p1))
theorem snd {x0 : (List UInt8)} {S : HS}  {p : (HV) × HS} (h : f x0 S = some p) : HCall Try.prog base W0 β0 19 [(.str x0)] S (fun v S1 => v = p.1 ∧ S1 = p.2) := by
  unfold f at h
  refine HCall.of_run at_.at_ body ?_
  show HRun Try.prog base W0 β0 19 none [.code c0] ⟨[(.str x0), .tup [], .tup [], .tup []], []⟩ S _
  refine q_seq e0 ?_
  refine q_region e1 rfl ?_
  obtain ⟨p1, hp1, h⟩ := leto h
  refine q_op (dst := some 1) rfl (fun _ ho => ok_box_e ho (.tmp rfl) (Nat.zero_lt_succ _) rfl hp1) ?_
  refine q_op (dst := some 2) rfl (fun _ ho => ok_assign ho (.const fun _ => .nilFn)) ?_
  refine hr_region_end ?_
  try simp only [HAct.put, List.set_cons_zero, List.set_cons_succ]
  refine q_seq e2 ?_
  refine q_region e3 rfl ?_
  refine q_op (dst := some 3) rfl (fun _ ho => ok_makeFunc ho Evs.nil (.cons (.tmp rfl) Evs.nil)) ?_
  refine q_op (dst := some 2) rfl (fun _ ho => ok_assign ho (.tmp rfl)) ?_
  refine hr_region_end ?_
  try simp only [HAct.put, List.set_cons_zero, List.set_cons_succ]
  cases h
  exact q_ret e4 at_.at_ rfl (res1 rfl rfl) ⟨rfl, rfl⟩
end
end fold_Runs
namespace rollcalllaw01_FoldRuns
abbrev id : Nat := 8
theorem at_ : FnAt Try.prog 8 Try.f8 := ⟨Try.func8, by kernel_rfl⟩
noncomputable def c0 : Code := (Try.f8.body).getD .skip
noncomputable def c1 : Code := match c0 with | .seq x _ => x | _ => .skip
noncomputable def c2 : Code := match c0 with | .seq _ x => x | _ => .skip
noncomputable def c3 : Code := match c2 with | .seq x _ => x | _ => .skip
noncomputable def c4 : Code := match c3 with | .seq x _ => x | _ => .skip
noncomputable def c5 : Code := match c3 with | .seq _ x => x | _ => .skip
noncomputable def c6 : Code := match c5 with | .cond _ x _ => x | _ => .skip
noncomputable def c7 : Code := match c6 with | .seq x _ => x | _ => .skip
noncomputable def c8 : Code := match c6 with | .seq _ x => x | _ => .skip
noncomputable def c9 : Code := match c5 with | .cond _ _ x => x | _ => .skip
noncomputable def c10 : Code := match c2 with | .seq _ x => x | _ => .skip
noncomputable def c11 : Code := match c10 with | .seq x _ => x | _ => .skip
noncomputable def c12 : Code := match c11 with | .seq x _ => x | _ => .skip
noncomputable def c13 : Code := match c11 with | .seq _ x => x | _ => .skip
noncomputable def c14 : Code := match c13 with | .cond _ x _ => x | _ => .skip
noncomputable def c15 : Code := match c14 with | .seq x _ => x | _ => .skip
noncomputable def c16 : Code := match c14 with | .seq _ x => x | _ => .skip
noncomputable def c17 : Code := match c13 with | .cond _ _ x => x | _ => .skip
noncomputable def c18 : Code := match c10 with | .seq _ x => x | _ => .skip
noncomputable def c19 : Code := match c18 with | .seq x _ => x | _ => .skip
noncomputable def c20 : Code := match c18 with | .seq _ x => x | _ => .skip
noncomputable def c21 : Code := match c20 with | .seq x _ => x | _ => .skip
noncomputable def c22 : Code := match c20 with | .seq _ x => x | _ => .skip
noncomputable def c23 : Code := match c22 with | .seq x _ => x | _ => .skip
noncomputable def c24 : Code := match c22 with | .seq _ x => x | _ => .skip
noncomputable def c25 : Code := match c24 with | .seq x _ => x | _ => .skip
noncomputable def c26 : Code := match c24 with | .seq _ x => x | _ => .skip
noncomputable def c27 : Code := match c26 with | .seq x _ => x | _ => .skip
noncomputable def c28 : Code := match c27 with | .seq x _ => x | _ => .skip
noncomputable def c29 : Code := match c27 with | .seq _ x => x | _ => .skip
noncomputable def c30 : Code := match c29 with | .cond _ x _ => x | _ => .skip
noncomputable def c31 : Code := match c30 with | .seq x _ => x | _ => .skip
noncomputable def c32 : Code := match c30 with | .seq _ x => x | _ => .skip
noncomputable def c33 : Code := match c29 with | .cond _ _ x => x | _ => .skip
noncomputable def c34 : Code := match c26 with | .seq _ x => x | _ => .skip
noncomputable def c35 : Code := match c34 with | .seq x _ => x | _ => .skip
noncomputable def c36 : Code := match c35 with | .seq x _ => x | _ => .skip
noncomputable def c37 : Code := match c35 with | .seq _ x => x | _ => .skip
noncomputable def c38 : Code := match c37 with | .block _ x => x | _ => .skip
noncomputable def c39 : Code := match c38 with | .rangeFunc _ _ x _ => x | _ => .skip
noncomputable def c40 : Code := match c39 with | .seq x _ => x | _ => .skip
noncomputable def c41 : Code := match c39 with | .seq _ x => x | _ => .skip
noncomputable def c42 : Code := match c38 with | .rangeFunc _ _ _ x => x | _ => .skip
noncomputable def c43 : Code := match c42 with | .block _ x => x | _ => .skip
noncomputable def c44 : Code := match c43 with | .seq x _ => x | _ => .skip
noncomputable def c45 : Code := match c44 with | .seq x _ => x | _ => .skip
noncomputable def c46 : Code := match c44 with | .seq _ x => x | _ => .skip
noncomputable def c47 : Code := match c46 with | .cond _ x _ => x | _ => .skip
noncomputable def c48 : Code := match c47 with | .seq x _ => x | _ => .skip
noncomputable def c49 : Code := match c47 with | .seq _ x => x | _ => .skip
noncomputable def c50 : Code := match c46 with | .cond _ _ x => x | _ => .skip
noncomputable def c51 : Code := match c43 with | .seq _ x => x | _ => .skip
noncomputable def c52 : Code := match c51 with | .seq x _ => x | _ => .skip
noncomputable def c53 : Code := match c52 with | .seq x _ => x | _ => .skip
noncomputable def c54 : Code := match c52 with | .seq _ x => x | _ => .skip
noncomputable def c55 : Code := match c54 with | .block _ x => x | _ => .skip
noncomputable def c56 : Code := match c55 with | .loop x => x | _ => .skip
noncomputable def c57 : Code := match c56 with | .seq x _ => x | _ => .skip
noncomputable def c58 : Code := match c57 with | .seq x _ => x | _ => .skip
noncomputable def c59 : Code := match c57 with | .seq _ x => x | _ => .skip
noncomputable def c60 : Code := match c59 with | .cond _ x _ => x | _ => .skip
noncomputable def c61 : Code := match c59 with | .cond _ _ x => x | _ => .skip
noncomputable def c62 : Code := match c56 with | .seq _ x => x | _ => .skip
noncomputable def c63 : Code := match c62 with | .seq x _ => x | _ => .skip
noncomputable def c64 : Code := match c63 with | .block _ x => x | _ => .skip
noncomputable def c65 : Code := match c62 with | .seq _ x => x | _ => .skip
noncomputable def c66 : Code := match c51 with | .seq _ x => x | _ => .skip
noncomputable def c67 : Code := match c66 with | .seq x _ => x | _ => .skip
noncomputable def c68 : Code := match c66 with | .seq _ x => x | _ => .skip
noncomputable def c69 : Code := match c34 with | .seq _ x => x | _ => .skip
noncomputable def c70 : Code := match c69 with | .seq x _ => x | _ => .skip
noncomputable def c71 : Code := match c69 with | .seq _ x => x | _ => .skip
theorem e0 : c0 = .seq c1 c2 := by kernel_rfl
noncomputable def r1 : Array Oper := match c1 with | .region _ x _ => x | _ => #[]
theorem e1 : c1 = .region 0 r1 false := by kernel_rfl
theorem e2 : c2 = .seq c3 c10 := by kernel_rfl
theorem e3 : c3 = .seq c4 c5 := by kernel_rfl
noncomputable def r4 : Array Oper := match c4 with | .region _ x _ => x | _ => #[]
theorem e4 : c4 = .region 1 r4 false := by kernel_rfl
theorem e5 : c5 = .cond (.tmp 11) c6 c9 := by kernel_rfl
theorem e6 : c6 = .seq c7 c8 := by kernel_rfl
noncomputable def r7 : Array Oper := match c7 with | .region _ x _ => x | _ => #[]
theorem e7 : c7 = .region 2 r7 false := by kernel_rfl
theorem e8 : c8 = .ret := by kernel_rfl
theorem e9 : c9 = .skip := by kernel_rfl
theorem e10 : c10 = .seq c11 c18 := by kernel_rfl
theorem e11 : c11 = .seq c12 c13 := by kernel_rfl
noncomputable def r12 : Array Oper := match c12 with | .region _ x _ => x | _ => #[]
theorem e12 : c12 = .region 3 r12 false := by kernel_rfl
theorem e13 : c13 = .cond (.tmp 14) c14 c17 := by kernel_rfl
theorem e14 : c14 = .seq c15 c16 := by kernel_rfl
noncomputable def r15 : Array Oper := match c15 with | .region _ x _ => x | _ => #[]
theorem e15 : c15 = .region 4 r15 false := by kernel_rfl
theorem e16 : c16 = .ret := by kernel_rfl
theorem e17 : c17 = .skip := by kernel_rfl
theorem e18 : c18 = .seq c19 c20 := by kernel_rfl
noncomputable def r19 : Array Oper := match c19 with | .region _ x _ => x | _ => #[]
theorem e19 : c19 = .region 5 r19 false := by kernel_rfl
theorem e20 : c20 = .seq c21 c22 := by kernel_rfl
noncomputable def r21 : Array Oper := match c21 with | .region _ x _ => x | _ => #[]
theorem e21 : c21 = .region 6 r21 false := by kernel_rfl
theorem e22 : c22 = .seq c23 c24 := by kernel_rfl
noncomputable def r23 : Array Oper := match c23 with | .region _ x _ => x | _ => #[]
theorem e23 : c23 = .region 7 r23 false := by kernel_rfl
theorem e24 : c24 = .seq c25 c26 := by kernel_rfl
noncomputable def r25 : Array Oper := match c25 with | .region _ x _ => x | _ => #[]
theorem e25 : c25 = .region 8 r25 false := by kernel_rfl
theorem e26 : c26 = .seq c27 c34 := by kernel_rfl
theorem e27 : c27 = .seq c28 c29 := by kernel_rfl
noncomputable def r28 : Array Oper := match c28 with | .region _ x _ => x | _ => #[]
theorem e28 : c28 = .region 9 r28 false := by kernel_rfl
theorem e29 : c29 = .cond (.tmp 18) c30 c33 := by kernel_rfl
theorem e30 : c30 = .seq c31 c32 := by kernel_rfl
noncomputable def r31 : Array Oper := match c31 with | .region _ x _ => x | _ => #[]
theorem e31 : c31 = .region 10 r31 false := by kernel_rfl
theorem e32 : c32 = .ret := by kernel_rfl
theorem e33 : c33 = .skip := by kernel_rfl
theorem e34 : c34 = .seq c35 c69 := by kernel_rfl
theorem e35 : c35 = .seq c36 c37 := by kernel_rfl
noncomputable def r36 : Array Oper := match c36 with | .region _ x _ => x | _ => #[]
theorem e36 : c36 = .region 11 r36 false := by kernel_rfl
theorem e37 : c37 = .block 0 c38 := by kernel_rfl
theorem e38 : c38 = .rangeFunc (.tmp 19) #[20, 21] c39 c42 := by kernel_rfl
theorem e39 : c39 = .seq c40 c41 := by kernel_rfl
noncomputable def r40 : Array Oper := match c40 with | .region _ x _ => x | _ => #[]
theorem e40 : c40 = .region 12 r40 false := by kernel_rfl
noncomputable def r41 : Array Oper := match c41 with | .region _ x _ => x | _ => #[]
theorem e41 : c41 = .region 13 r41 false := by kernel_rfl
theorem e42 : c42 = .block 1 c43 := by kernel_rfl
theorem e43 : c43 = .seq c44 c51 := by kernel_rfl
theorem e44 : c44 = .seq c45 c46 := by kernel_rfl
noncomputable def r45 : Array Oper := match c45 with | .region _ x _ => x | _ => #[]
theorem e45 : c45 = .region 14 r45 false := by kernel_rfl
theorem e46 : c46 = .cond (.tmp 40) c47 c50 := by kernel_rfl
theorem e47 : c47 = .seq c48 c49 := by kernel_rfl
noncomputable def r48 : Array Oper := match c48 with | .region _ x _ => x | _ => #[]
theorem e48 : c48 = .region 15 r48 false := by kernel_rfl
theorem e49 : c49 = .exit 0 := by kernel_rfl
theorem e50 : c50 = .skip := by kernel_rfl
theorem e51 : c51 = .seq c52 c66 := by kernel_rfl
theorem e52 : c52 = .seq c53 c54 := by kernel_rfl
noncomputable def r53 : Array Oper := match c53 with | .region _ x _ => x | _ => #[]
theorem e53 : c53 = .region 16 r53 false := by kernel_rfl
theorem e54 : c54 = .block 2 c55 := by kernel_rfl
theorem e55 : c55 = .loop c56 := by kernel_rfl
theorem e56 : c56 = .seq c57 c62 := by kernel_rfl
theorem e57 : c57 = .seq c58 c59 := by kernel_rfl
noncomputable def r58 : Array Oper := match c58 with | .region _ x _ => x | _ => #[]
theorem e58 : c58 = .region 17 r58 false := by kernel_rfl
theorem e59 : c59 = .cond (.tmp 44) c60 c61 := by kernel_rfl
theorem e60 : c60 = .skip := by kernel_rfl
theorem e61 : c61 = .exit 2 := by kernel_rfl
theorem e62 : c62 = .seq c63 c65 := by kernel_rfl
theorem e63 : c63 = .block 3 c64 := by kernel_rfl
noncomputable def r64 : Array Oper := match c64 with | .region _ x _ => x | _ => #[]
theorem e64 : c64 = .region 19 r64 true := by kernel_rfl
noncomputable def r65 : Array Oper := match c65 with | .region _ x _ => x | _ => #[]
theorem e65 : c65 = .region 18 r65 false := by kernel_rfl
theorem e66 : c66 = .seq c67 c68 := by kernel_rfl
noncomputable def r67 : Array Oper := match c67 with | .region _ x _ => x | _ => #[]
theorem e67 : c67 = .region 20 r67 false := by kernel_rfl
noncomputable def r68 : Array Oper := match c68 with | .region _ x _ => x | _ => #[]
theorem e68 : c68 = .region 21 r68 false := by kernel_rfl
theorem e69 : c69 = .seq c70 c71 := by kernel_rfl
noncomputable def r70 : Array Oper := match c70 with | .region _ x _ => x | _ => #[]
theorem e70 : c70 = .region 22 r70 false := by kernel_rfl
theorem e71 : c71 = .ret := by kernel_rfl
theorem body : Try.f8.body = some c0 := by kernel_rfl
section
variable {base : Nat} {W0 : World} {β0 : Bt}
def L3 (D : Dp) (H : Hd) (k : Nat) (l : Nat) : Nat → (Option HA) → (Option HA) → (Option HA) → (List UInt8) → Bool → Int → HS → Option (HV × HS)
  | 0, _, _, _, _, _, _, _ => none
  | n + 1, y3, y4, y5, y7, y8, y9, S =>
    (if y9 < (List.length y7 : Int) then
    (Option.bind (y5) fun p26 =>
    (Option.bind (HS.ldB S p26) fun p27 =>
    (if p27 = true then
    (Option.bind (sat y7 y9) fun p29 =>
    (Option.bind (fold_Byte.f (UInt8.toNat p29 : Int)) fun p30 =>
    (Option.bind (sat y7 y9) fun p31 =>
    (Option.bind (y5) fun p32 =>
    (Option.bind (HS.sets S p32 [(.bool ((!decide (p30 = (UInt8.toNat p31 : Int))) == y8))]) fun p33 =>
    (L3 D H k l n) y3 y4 y5 y7 y8 (w64 (y9 + 1)) p33))))) else
    (Option.bind (y5) fun p34 =>
    (Option.bind (HS.sets S p34 [(.bool false)]) fun p35 =>
    (L3 D H k l n) y3 y4 y5 y7 y8 (w64 (y9 + 1)) p35))))) else
    (Option.bind (y3) fun p36 =>
    (Option.bind (HS.ldS S p36) fun p37 =>
    (if List.length p37 + List.length y7 ≤ 9223372036854775807 then
    (Option.bind (y3) fun p39 =>
    (Option.bind (HS.sets S p39 [(.str (p37 ++ y7))]) fun p40 =>
    (Option.bind (y4) fun p41 =>
    (Option.bind (HS.sets p40 p41 [(.bool y8)]) fun p42 =>
    (HS.endr p42 l none))))) else none))))
theorem L3_snd {D : Dp} {H : Hd} {k : Nat} {l : Nat} (hD : DSound Try.prog base W0 D) (hH : HSound Try.prog base W0 β0 H)  : ∀ {n : Nat} ⦃y3 : (Option HA)⦄ ⦃y4 : (Option HA)⦄ ⦃y5 : (Option HA)⦄ ⦃y7 : (List UInt8)⦄ ⦃y8 : Bool⦄ ⦃y9 : Int⦄ ⦃S : HS⦄ ⦃p : HV × HS⦄ ⦃g0 g1 g2 g6 g10 g11 g12 g13 g14 g15 g16 g17 g18 g19 g20 g21 g22 g23 g24 g25 g26 g27 g28 g29 g30 g31 g32 g33 g34 g35 g36 g37 g38 g39 g40 g41 g42 g43 g44 g45 g46 g47 g48 g49 g50 g51 g52 g53 g54 g55 g56 g57 g58 g59 g60 g61 g62 g63 g64 g65 g66 g67 g68 g69 : HV⦄, L3 D H k l n y3 y4 y5 y7 y8 y9 S = some p → HRun Try.prog base W0 β0 8 (some l) [.inLoop c56, .inBlock 2, .code c66, .inBlock 1] ⟨[g0, g1, g2, (.ptr y3), (.ptr y4), (.ptr y5), g6, (.str y7), (.bool y8), (.int .i64 y9), g10, g11, g12, g13, g14, g15, g16, g17, g18, g19, g20, g21, g22, g23, g24, g25, g26, g27, g28, g29, g30, g31, g32, g33, g34, g35, g36, g37, g38, g39, g40, g41, g42, g43, g44, g45, g46, g47, g48, g49, g50, g51, g52, g53, g54, g55, g56, g57, g58, g59, g60, g61, g62, g63, g64, g65, g66, g67, g68, g69], []⟩ S (fun v S1 => v = p.1 ∧ S1 = p.2) := by
  intro n
  induction n with
  | zero => intro _ _ _ _ _ _ _ _ _ _ _ _ _ _ _ _ _ _ _ _ _ _ _ _ _ _ _ _ _ _ _ _ _ _ _ _ _ _ _ _ _ _ _ _ _ _ _ _ _ _ _ _ _ _ _ _ _ _ _ _ _ _ _ _ _ _ _ _ _ _ _ _ h; cases h
  | succ n ih =>
    intro y3 y4 y5 y7 y8 y9 S p g0 g1 g2 g6 g10 g11 g12 g13 g14 g15 g16 g17 g18 g19 g20 g21 g22 g23 g24 g25 g26 g27 g28 g29 g30 g31 g32 g33 g34 g35 g36 g37 g38 g39 g40 g41 g42 g43 g44 g45 g46 g47 g48 g49 g50 g51 g52 g53 g54 g55 g56 g57 g58 g59 g60 g61 g62 g63 g64 g65 g66 g67 g68 g69 h
    simp only [L3] at h
    refine hr_inLoop ?_
    refine q_seq e56 ?_
    refine q_seq e57 ?_
    refine q_region e58 rfl ?_
    refine q_op (dst := some 41) rfl (fun _ ho => ok_move ho (.tmp rfl)) ?_
    refine q_op (dst := some 42) rfl (fun _ ho => ok_move ho (.tmp rfl)) ?_
    refine q_op (dst := some 43) rfl (fun _ ho => ok_len_str ho rfl tu9 (.tmp rfl)) ?_
    refine q_op (dst := some 44) rfl (fun _ ho => ok_ibin ho (.tmp rfl) (.tmp rfl) rfl) ?_
    refine hr_region_end ?_
    try simp only [HAct.put, List.set_cons_zero, List.set_cons_succ]
    rcases ifc h with ⟨hc25, h⟩ | ⟨hc25, h⟩
    · refine q_cond_t e59 (.tmp rfl) (decide_eq_true hc25) ?_
      refine q_skipc e60 ?_
      refine q_seq e62 ?_
      refine q_block e63 ?_
      refine x_start (cls := [1, 0, 0, 0, 0, 0, 0, 0, 0, 0, 0, 0, 0, 2]) (rk := [0, 1, 2, 3, 4, 5, 6, 7, 8, 9, 10, 11, 12, 13]) e64 (by kernel_rfl) ?_
      obtain ⟨p26, hp26, h⟩ := bindo h
      obtain ⟨p27, hp27, h⟩ := bindo h
      refine x_go (r_op (dst := some 47) (ts := [5]) rfl (by intro _ _ h; cases h) (by kernel_rfl) (fun _ ho => ok_load_s ho sc4 (.tmp rfl) hp26 (ldB_out hp27))) rfl ?_
      refine x_go (f_op (dst := some 48) (ts := [47]) rfl (by intro _ _ h; cases h) (by kernel_rfl) (fun _ _ ho => ok_move ho (.tmp rfl))) rfl ?_
      rcases ifc h with ⟨hc28, h⟩ | ⟨hc28, h⟩
      · refine x_go (f_op_g (dst := some 49) (t := 48) (ts := [7, 48]) rfl (by intro _ _ h; cases h) (by kernel_rfl) rfl rfl hc28 (fun _ _ ho => ok_move ho (.tmp rfl))) rfl ?_
        refine x_go (f_op_g (dst := some 50) (t := 48) (ts := [9, 48]) rfl (by intro _ _ h; cases h) (by kernel_rfl) rfl rfl hc28 (fun _ _ ho => ok_move ho (.tmp rfl))) rfl ?_
        try simp only [HAct.put, List.set_cons_zero, List.set_cons_succ]
        obtain ⟨p29, hp29, h⟩ := bindo h
        refine x_go (f_op_g (dst := some 51) (t := 48) (ts := [49, 50, 48]) rfl (by intro _ _ h; cases h) (by kernel_rfl) rfl rfl hc28 (fun _ _ ho => ok_index_s ho tu9 (.tmp rfl) (.tmp rfl) hp29)) rfl ?_
        obtain ⟨p30, hp30, h⟩ := bindo h
        refine x_go (f_call_g (dst := some 52) (t := 48) (ts := [51, 48]) rfl (by kernel_rfl) rfl rfl hc28 (.func _) (.cons (.tmp rfl) Evs.nil) (fun _ => (HInv.static fold_Byte.at_ fold_Byte.body (fold_Byte.snd  hp30)))) rfl ?_
        refine x_go (f_op_g (dst := some 53) (t := 48) (ts := [7, 48]) rfl (by intro _ _ h; cases h) (by kernel_rfl) rfl rfl hc28 (fun _ _ ho => ok_move ho (.tmp rfl))) rfl ?_
        refine x_go (f_op_g (dst := some 54) (t := 48) (ts := [9, 48]) rfl (by intro _ _ h; cases h) (by kernel_rfl) rfl rfl hc28 (fun _ _ ho => ok_move ho (.tmp rfl))) rfl ?_
        try simp only [HAct.put, List.set_cons_zero, List.set_cons_succ]
        obtain ⟨p31, hp31, h⟩ := bindo h
        refine x_go (f_op_g (dst := some 55) (t := 48) (ts := [53, 54, 48]) rfl (by intro _ _ h; cases h) (by kernel_rfl) rfl rfl hc28 (fun _ _ ho => ok_index_s ho tu9 (.tmp rfl) (.tmp rfl) hp31)) rfl ?_
        refine x_go (f_op_g (dst := some 56) (t := 48) (ts := [52, 55, 48]) rfl (by intro _ _ h; cases h) (by kernel_rfl) rfl rfl hc28 (fun _ _ ho => ok_ibin ho (.tmp rfl) (.tmp rfl) rfl)) rfl ?_
        refine x_go (f_op_g (dst := some 57) (t := 48) (ts := [8, 48]) rfl (by intro _ _ h; cases h) (by kernel_rfl) rfl rfl hc28 (fun _ _ ho => ok_move ho (.tmp rfl))) rfl ?_
        refine x_go (f_op_g (dst := some 58) (t := 48) (ts := [56, 57, 48]) rfl (by intro _ _ h; cases h) (by kernel_rfl) rfl rfl hc28 (fun _ _ ho => ok_beq ho tu4 (.inl ⟨rfl, rfl⟩) (.tmp rfl) (.tmp rfl))) rfl ?_
        try simp only [HAct.put, List.set_cons_zero, List.set_cons_succ]
        refine x_go (f_op (dst := some 59) (ts := [48, 58]) rfl (by intro _ _ h; cases h) (by kernel_rfl) (fun _ _ ho => ok_pick_tt ho (.tmp rfl) hc28 (.tmp rfl))) rfl ?_
        obtain ⟨p32, hp32, h⟩ := bindo h
        obtain ⟨p33, hp33, h⟩ := bindo h
        refine x_go (e_op (dst := none) (ts := [5, 59]) rfl (by intro _ _ h; cases h) (by kernel_rfl) (fun _ ho => ok_store_s (v := (.bool ((!decide (p30 = (UInt8.toNat p31 : Int))) == y8))) ho sz4 (.tmp rfl) hp32 (.tmp rfl) rfl hp33)) rfl ?_
        refine x_rest rfl ?_
        refine hr_region_end ?_
        try simp only [HAct.put, List.set_cons_zero, List.set_cons_succ]
        refine hr_inBlock ?_
        refine q_region e65 rfl ?_
        refine q_op (dst := some 45) rfl (fun _ ho => ok_move ho (.tmp rfl)) ?_
        refine q_op (dst := some 46) rfl (fun _ ho => ok_ibin ho (.tmp rfl) (.int _ _) rfl) ?_
        refine q_op (dst := some 9) rfl (fun _ ho => ok_assign ho (.tmp rfl)) ?_
        refine hr_region_end ?_
        try simp only [HAct.put, List.set_cons_zero, List.set_cons_succ]
        try simp only [HAct.put, List.set_cons_zero, List.set_cons_succ]
        exact ih h
      · refine x_go (f_skip (dst := some 49) (t := 48) (ts := [7, 48]) rfl (by kernel_rfl) rfl rfl (bfalse hc28)) rfl ?_
        refine x_go (f_skip (dst := some 50) (t := 48) (ts := [9, 48]) rfl (by kernel_rfl) rfl rfl (bfalse hc28)) rfl ?_
        try simp only [HAct.put, List.set_cons_zero, List.set_cons_succ]
        refine x_go (f_skip (dst := some 51) (t := 48) (ts := [49, 50, 48]) rfl (by kernel_rfl) rfl rfl (bfalse hc28)) rfl ?_
        refine x_go (f_skip (dst := some 52) (t := 48) (ts := [51, 48]) rfl (by kernel_rfl) rfl rfl (bfalse hc28)) rfl ?_
        refine x_go (f_skip (dst := some 53) (t := 48) (ts := [7, 48]) rfl (by kernel_rfl) rfl rfl (bfalse hc28)) rfl ?_
        refine x_go (f_skip (dst := some 54) (t := 48) (ts := [9, 48]) rfl (by kernel_rfl) rfl rfl (bfalse hc28)) rfl ?_
        try simp only [HAct.put, List.set_cons_zero, List.set_cons_succ]
        refine x_go (f_skip (dst := some 55) (t := 48) (ts := [53, 54, 48]) rfl (by kernel_rfl) rfl rfl (bfalse hc28)) rfl ?_
        refine x_go (f_skip (dst := some 56) (t := 48) (ts := [52, 55, 48]) rfl (by kernel_rfl) rfl rfl (bfalse hc28)) rfl ?_
        refine x_go (f_skip (dst := some 57) (t := 48) (ts := [8, 48]) rfl (by kernel_rfl) rfl rfl (bfalse hc28)) rfl ?_
        refine x_go (f_skip (dst := some 58) (t := 48) (ts := [56, 57, 48]) rfl (by kernel_rfl) rfl rfl (bfalse hc28)) rfl ?_
        try simp only [HAct.put, List.set_cons_zero, List.set_cons_succ]
        refine x_go (f_op (dst := some 59) (ts := [48, 58]) rfl (by intro _ _ h; cases h) (by kernel_rfl) (fun _ _ ho => ok_pick_ff ho (.tmp rfl) (bfalse hc28) (.bool _))) rfl ?_
        obtain ⟨p34, hp34, h⟩ := bindo h
        obtain ⟨p35, hp35, h⟩ := bindo h
        refine x_go (e_op (dst := none) (ts := [5, 59]) rfl (by intro _ _ h; cases h) (by kernel_rfl) (fun _ ho => ok_store_s (v := (.bool false)) ho sz4 (.tmp rfl) hp34 (.tmp rfl) rfl hp35)) rfl ?_
        refine x_rest rfl ?_
        refine hr_region_end ?_
        try simp only [HAct.put, List.set_cons_zero, List.set_cons_succ]
        refine hr_inBlock ?_
        refine q_region e65 rfl ?_
        refine q_op (dst := some 45) rfl (fun _ ho => ok_move ho (.tmp rfl)) ?_
        refine q_op (dst := some 46) rfl (fun _ ho => ok_ibin ho (.tmp rfl) (.int _ _) rfl) ?_
        refine q_op (dst := some 9) rfl (fun _ ho => ok_assign ho (.tmp rfl)) ?_
        refine hr_region_end ?_
        try simp only [HAct.put, List.set_cons_zero, List.set_cons_succ]
        try simp only [HAct.put, List.set_cons_zero, List.set_cons_succ]
        exact ih h
    · refine q_cond_f e59 (.tmp rfl) (decide_eq_false hc25) ?_
      refine q_exit e61 rfl ?_
      refine q_seq e66 ?_
      refine q_region e67 rfl ?_
      obtain ⟨p36, hp36, h⟩ := bindo h
      obtain ⟨p37, hp37, h⟩ := bindo h
      refine q_op (dst := some 60) rfl (fun _ ho => ok_load_s ho sc9 (.tmp rfl) hp36 (ldS_out hp37)) ?_
      refine q_op (dst := some 61) rfl (fun _ ho => ok_move ho (.tmp rfl)) ?_
      obtain ⟨hg38, h⟩ := gd h
      refine q_op (dst := some 62) rfl (fun _ ho => ok_sadd ho (.tmp rfl) (.tmp rfl) hg38) ?_
      obtain ⟨p39, hp39, h⟩ := bindo h
      obtain ⟨p40, hp40, h⟩ := bindo h
      refine q_op (dst := none) rfl (fun _ ho => ok_store_s (v := (.str (p37 ++ y7))) ho sz9 (.tmp rfl) hp39 (.tmp rfl) rfl hp40) ?_
      refine hr_region_end ?_
      try simp only [HAct.put, List.set_cons_zero, List.set_cons_succ]
      refine q_region e68 rfl ?_
      refine q_op (dst := some 63) rfl (fun _ ho => ok_move ho (.tmp rfl)) ?_
      obtain ⟨p41, hp41, h⟩ := bindo h
      obtain ⟨p42, hp42, h⟩ := bindo h
      refine q_op (dst := none) rfl (fun _ ho => ok_store_s (v := (.bool y8)) ho sz4 (.tmp rfl) hp41 (.tmp rfl) rfl hp42) ?_
      refine hr_region_end ?_
      try simp only [HAct.put, List.set_cons_zero, List.set_cons_succ]
      refine hr_inBlock ?_
      exact q_round_end h ⟨rfl, rfl⟩
def J2 (D : Dp) (H : Hd) (k : Nat) (l : Nat) (y3 : (Option HA)) (y4 : (Option HA)) (y5 : (Option HA)) (y7 : (List UInt8)) (y8 : Bool) (y40 : Bool) (S : HS) : Option (HV × HS) :=
  (if y40 = true then
  (Option.bind (y5) fun p23 =>
  (Option.bind (HS.sets S p23 [(.bool false)]) fun p24 =>
  (HS.endr p24 l (some (.exit 0))))) else
  L3 D H k l k y3 y4 y5 y7 y8 0 S)
theorem J2_snd {D : Dp} {H : Hd} {k : Nat} {l : Nat} (hD : DSound Try.prog base W0 D) (hH : HSound Try.prog base W0 β0 H)  {y3 : (Option HA)} {y4 : (Option HA)} {y5 : (Option HA)} {y7 : (List UInt8)} {y8 : Bool} {y40 : Bool} {S : HS} {p : HV × HS} {g0 g1 g2 g6 g9 g10 g11 g12 g13 g14 g15 g16 g17 g18 g19 g20 g21 g22 g23 g24 g25 g26 g27 g28 g29 g30 g31 g32 g33 g34 g35 g36 g37 g38 g39 g41 g42 g43 g44 g45 g46 g47 g48 g49 g50 g51 g52 g53 g54 g55 g56 g57 g58 g59 g60 g61 g62 g63 g64 g65 g66 g67 g68 g69 : HV} (h : J2 D H k l y3 y4 y5 y7 y8 y40 S = some p) : HRun Try.prog base W0 β0 8 (some l) [.code c46, .code c51, .inBlock 1] ⟨[g0, g1, g2, (.ptr y3), (.ptr y4), (.ptr y5), g6, (.str y7), (.bool y8), g9, g10, g11, g12, g13, g14, g15, g16, g17, g18, g19, g20, g21, g22, g23, g24, g25, g26, g27, g28, g29, g30, g31, g32, g33, g34, g35, g36, g37, g38, g39, (.bool y40), g41, g42, g43, g44, g45, g46, g47, g48, g49, g50, g51, g52, g53, g54, g55, g56, g57, g58, g59, g60, g61, g62, g63, g64, g65, g66, g67, g68, g69], []⟩ S (fun v S1 => v = p.1 ∧ S1 = p.2) := by
  unfold J2 at h
  rcases ifc h with ⟨hc22, h⟩ | ⟨hc22, h⟩
  · refine q_cond_t e46 (.tmp rfl) hc22 ?_
    refine q_seq e47 ?_
    refine q_region e48 rfl ?_
    obtain ⟨p23, hp23, h⟩ := bindo h
    obtain ⟨p24, hp24, h⟩ := bindo h
    refine q_op (dst := none) rfl (fun _ ho => ok_store_s (v := (.bool false)) ho sz4 (.tmp rfl) hp23 (.bool _) rfl hp24) ?_
    refine hr_region_end ?_
    try simp only [HAct.put, List.set_cons_zero, List.set_cons_succ]
    exact q_round_exit e49 rfl h ⟨rfl, rfl⟩
  · refine q_cond_f e46 (.tmp rfl) (bfalse hc22) ?_
    refine q_skipc e50 ?_
    refine q_seq e51 ?_
    refine q_seq e52 ?_
    refine q_region e53 rfl ?_
    refine q_op (dst := some 9) rfl (fun _ ho => ok_assign ho (.int _ _)) ?_
    refine hr_region_end ?_
    try simp only [HAct.put, List.set_cons_zero, List.set_cons_succ]
    refine q_block e54 ?_
    refine q_loop e55 ?_
    try simp only [HAct.put, List.set_cons_zero, List.set_cons_succ]
    exact L3_snd hD hH h
def J1 (D : Dp) (H : Hd) (k : Nat) (l : Nat) (y1 : (Option HA)) (y3 : (Option HA)) (y4 : (Option HA)) (y5 : (Option HA)) (y7 : (List UInt8)) (y8 : Bool) (y33 : Bool) (S : HS) : Option (HV × HS) :=
  (if y33 = true then
  J2 D H k l y3 y4 y5 y7 y8 true S else
  (Option.bind (y3) fun p43 =>
  (Option.bind (HS.ldS S p43) fun p44 =>
  (Option.bind (y1) fun p45 =>
  (Option.bind (HS.ldS S p45) fun p46 =>
  J2 D H k l y3 y4 y5 y7 y8 (decide ((List.length p44 : Int) > (List.length p46 : Int))) S)))))
theorem J1_snd {D : Dp} {H : Hd} {k : Nat} {l : Nat} (hD : DSound Try.prog base W0 D) (hH : HSound Try.prog base W0 β0 H)  {y1 : (Option HA)} {y3 : (Option HA)} {y4 : (Option HA)} {y5 : (Option HA)} {y7 : (List UInt8)} {y8 : Bool} {y33 : Bool} {S : HS} {p : HV × HS} {g0 g2 g6 g9 g10 g11 g12 g13 g14 g15 g16 g17 g18 g19 g20 g21 g22 g23 g24 g25 g26 g27 g28 g29 g30 g31 g32 g34 g35 g36 g37 g38 g39 g40 g41 g42 g43 g44 g45 g46 g47 g48 g49 g50 g51 g52 g53 g54 g55 g56 g57 g58 g59 g60 g61 g62 g63 g64 g65 g66 g67 g68 g69 : HV} (h : J1 D H k l y1 y3 y4 y5 y7 y8 y33 S = some p) : HRun Try.prog base W0 β0 8 (some l) [.inRegion r45 [12, 13, 14, 15, 16, 17, 18], .code c46, .code c51, .inBlock 1] ⟨[g0, (.ptr y1), g2, (.ptr y3), (.ptr y4), (.ptr y5), g6, (.str y7), (.bool y8), g9, g10, g11, g12, g13, g14, g15, g16, g17, g18, g19, g20, g21, g22, g23, g24, g25, g26, g27, g28, g29, g30, g31, g32, (.bool y33), g34, g35, g36, g37, g38, g39, g40, g41, g42, g43, g44, g45, g46, g47, g48, g49, g50, g51, g52, g53, g54, g55, g56, g57, g58, g59, g60, g61, g62, g63, g64, g65, g66, g67, g68, g69], []⟩ S (fun v S1 => v = p.1 ∧ S1 = p.2) := by
  unfold J1 at h
  refine q_op (dst := some 34) rfl (fun _ ho => ok_move ho (.tmp rfl)) ?_
  rcases ifc h with ⟨hc21, h⟩ | ⟨hc21, h⟩
  · refine q_skip (dst := some 35) (t := 34) rfl rfl rfl hc21 ?_
    refine q_skip (dst := some 36) (t := 34) rfl rfl rfl hc21 ?_
    refine q_skip (dst := some 37) (t := 34) rfl rfl rfl hc21 ?_
    try simp only [HAct.put, List.set_cons_zero, List.set_cons_succ]
    refine q_skip (dst := some 38) (t := 34) rfl rfl rfl hc21 ?_
    refine q_skip (dst := some 39) (t := 34) rfl rfl rfl hc21 ?_
    refine q_op (dst := some 40) rfl (fun _ ho => ok_pick_tt ho (.tmp rfl) hc21 (.bool _)) ?_
    refine hr_region_end ?_
    try simp only [HAct.put, List.set_cons_zero, List.set_cons_succ]
    try simp only [HAct.put, List.set_cons_zero, List.set_cons_succ]
    exact J2_snd hD hH h
  · obtain ⟨p43, hp43, h⟩ := bindo h
    obtain ⟨p44, hp44, h⟩ := bindo h
    refine q_op_g (t := 34) (dst := some 35) rfl rfl rfl (bfalse hc21) (fun _ ho => ok_load_s ho sc9 (.tmp rfl) hp43 (ldS_out hp44)) ?_
    refine q_op_g (t := 34) (dst := some 36) rfl rfl rfl (bfalse hc21) (fun _ ho => ok_len_str ho rfl tu9 (.tmp rfl)) ?_
    obtain ⟨p45, hp45, h⟩ := bindo h
    obtain ⟨p46, hp46, h⟩ := bindo h
    refine q_op_g (t := 34) (dst := some 37) rfl rfl rfl (bfalse hc21) (fun _ ho => ok_load_s ho sc9 (.tmp rfl) hp45 (ldS_out hp46)) ?_
    try simp only [HAct.put, List.set_cons_zero, List.set_cons_succ]
    refine q_op_g (t := 34) (dst := some 38) rfl rfl rfl (bfalse hc21) (fun _ ho => ok_len_str ho rfl tu9 (.tmp rfl)) ?_
    refine q_op_g (t := 34) (dst := some 39) rfl rfl rfl (bfalse hc21) (fun _ ho => ok_ibin ho (.tmp rfl) (.tmp rfl) rfl) ?_
    refine q_op (dst := some 40) rfl (fun _ ho => ok_pick_ff ho (.tmp rfl) (bfalse hc21) (.tmp rfl)) ?_
    refine hr_region_end ?_
    try simp only [HAct.put, List.set_cons_zero, List.set_cons_succ]
    try simp only [HAct.put, List.set_cons_zero, List.set_cons_succ]
    exact J2_snd hD hH h
def J4 (D : Dp) (H : Hd) (k : Nat) (l : Nat) (y1 : (Option HA)) (y3 : (Option HA)) (y4 : (Option HA)) (y5 : (Option HA)) (y7 : (List UInt8)) (y8 : Bool) (y25 : Bool) (y32 : Bool) (S : HS) : Option (HV × HS) :=
  (if y25 = true then
  J1 D H k l y1 y3 y4 y5 y7 y8 true S else
  J1 D H k l y1 y3 y4 y5 y7 y8 y32 S)
theorem J4_snd {D : Dp} {H : Hd} {k : Nat} {l : Nat} (hD : DSound Try.prog base W0 D) (hH : HSound Try.prog base W0 β0 H)  {y1 : (Option HA)} {y3 : (Option HA)} {y4 : (Option HA)} {y5 : (Option HA)} {y7 : (List UInt8)} {y8 : Bool} {y25 : Bool} {y32 : Bool} {S : HS} {p : HV × HS} {g0 g2 g6 g9 g10 g11 g12 g13 g14 g15 g16 g17 g18 g19 g20 g21 g22 g23 g24 g26 g27 g28 g29 g30 g31 g33 g34 g35 g36 g37 g38 g39 g40 g41 g42 g43 g44 g45 g46 g47 g48 g49 g50 g51 g52 g53 g54 g55 g56 g57 g58 g59 g60 g61 g62 g63 g64 g65 g66 g67 g68 g69 : HV} (h : J4 D H k l y1 y3 y4 y5 y7 y8 y25 y32 S = some p) : HRun Try.prog base W0 β0 8 (some l) [.inRegion r45 [11, 12, 13, 14, 15, 16, 17, 18], .code c46, .code c51, .inBlock 1] ⟨[g0, (.ptr y1), g2, (.ptr y3), (.ptr y4), (.ptr y5), g6, (.str y7), (.bool y8), g9, g10, g11, g12, g13, g14, g15, g16, g17, g18, g19, g20, g21, g22, g23, g24, (.bool y25), g26, g27, g28, g29, g30, g31, (.bool y32), g33, g34, g35, g36, g37, g38, g39, g40, g41, g42, g43, g44, g45, g46, g47, g48, g49, g50, g51, g52, g53, g54, g55, g56, g57, g58, g59, g60, g61, g62, g63, g64, g65, g66, g67, g68, g69], []⟩ S (fun v S1 => v = p.1 ∧ S1 = p.2) := by
  unfold J4 at h
  rcases ifc h with ⟨hc52, h⟩ | ⟨hc52, h⟩
  · refine q_op (dst := some 33) rfl (fun _ ho => ok_pick_tt ho (.tmp rfl) hc52 (.bool _)) ?_
    try simp only [HAct.put, List.set_cons_zero, List.set_cons_succ]
    try simp only [HAct.put, List.set_cons_zero, List.set_cons_succ]
    exact J1_snd hD hH h
  · refine q_op (dst := some 33) rfl (fun _ ho => ok_pick_ff ho (.tmp rfl) (bfalse hc52) (.tmp rfl)) ?_
    try simp only [HAct.put, List.set_cons_zero, List.set_cons_succ]
    try simp only [HAct.put, List.set_cons_zero, List.set_cons_succ]
    exact J1_snd hD hH h
def J0 (D : Dp) (H : Hd) (k : Nat) (l : Nat) (y1 : (Option HA)) (y3 : (Option HA)) (y4 : (Option HA)) (y5 : (Option HA)) (y20 : (List UInt8)) (y21 : Bool) (S : HS) : Option (HV × HS) :=
  (Option.bind (HS.begin_ S l) fun p19 =>
  (if (List.length y20 : Int) = 0 then
  J1 D H k l y1 y3 y4 y5 y20 y21 true p19 else
  (Option.bind (y3) fun p47 =>
  (Option.bind (HS.ldS p19 p47) fun p48 =>
  (if (!decide (p48 = ([] : List UInt8))) = true then
  (Option.bind (y4) fun p50 =>
  (Option.bind (HS.ldB p19 p50) fun p51 =>
  J4 D H k l y1 y3 y4 y5 y20 y21 (decide ((List.length y20 : Int) = 0)) (y21 == p51) p19)) else
  J4 D H k l y1 y3 y4 y5 y20 y21 (decide ((List.length y20 : Int) = 0)) false p19)))))
theorem J0_snd {D : Dp} {H : Hd} {k : Nat} {l : Nat} (hD : DSound Try.prog base W0 D) (hH : HSound Try.prog base W0 β0 H)  {y1 : (Option HA)} {y3 : (Option HA)} {y4 : (Option HA)} {y5 : (Option HA)} {y20 : (List UInt8)} {y21 : Bool} {S : HS} {p : HV × HS} {g0 g2 g6 g7 g8 g9 g10 g11 g12 g13 g14 g15 g16 g17 g18 g19 g22 g23 g24 g25 g26 g27 g28 g29 g30 g31 g32 g33 g34 g35 g36 g37 g38 g39 g40 g41 g42 g43 g44 g45 g46 g47 g48 g49 g50 g51 g52 g53 g54 g55 g56 g57 g58 g59 g60 g61 g62 g63 g64 g65 g66 g67 g68 g69 : HV} (h : J0 D H k l y1 y3 y4 y5 y20 y21 S = some p) : HRun Try.prog base W0 β0 8 (some l) [.code c39, .beginRound, .code c42] ⟨[g0, (.ptr y1), g2, (.ptr y3), (.ptr y4), (.ptr y5), g6, g7, g8, g9, g10, g11, g12, g13, g14, g15, g16, g17, g18, g19, (.str y20), (.bool y21), g22, g23, g24, g25, g26, g27, g28, g29, g30, g31, g32, g33, g34, g35, g36, g37, g38, g39, g40, g41, g42, g43, g44, g45, g46, g47, g48, g49, g50, g51, g52, g53, g54, g55, g56, g57, g58, g59, g60, g61, g62, g63, g64, g65, g66, g67, g68, g69], []⟩ S (fun v S1 => v = p.1 ∧ S1 = p.2) := by
  unfold J0 at h
  refine q_seq e39 ?_
  refine q_region e40 rfl ?_
  refine q_op (dst := some 7) rfl (fun _ ho => ok_assign ho (.tmp rfl)) ?_
  refine hr_region_end ?_
  try simp only [HAct.put, List.set_cons_zero, List.set_cons_succ]
  refine q_region e41 rfl ?_
  refine q_op (dst := some 8) rfl (fun _ ho => ok_assign ho (.tmp rfl)) ?_
  refine hr_region_end ?_
  try simp only [HAct.put, List.set_cons_zero, List.set_cons_succ]
  obtain ⟨p19, hp19, h⟩ := bindo h
  refine q_begin hp19 ?_
  refine q_block e42 ?_
  refine q_seq e43 ?_
  refine q_seq e44 ?_
  refine q_region e45 rfl ?_
  refine q_op (dst := some 22) rfl (fun _ ho => ok_move ho (.tmp rfl)) ?_
  refine q_op (dst := some 23) rfl (fun _ ho => ok_len_str ho rfl tu9 (.tmp rfl)) ?_
  refine q_op (dst := some 24) rfl (fun _ ho => ok_ibin ho (.tmp rfl) (.int _ _) rfl) ?_
  refine q_op (dst := some 25) rfl (fun _ ho => ok_move ho (.tmp rfl)) ?_
  try simp only [HAct.put, List.set_cons_zero, List.set_cons_succ]
  rcases ifc h with ⟨hc20, h⟩ | ⟨hc20, h⟩
  · refine q_skip (dst := some 26) (t := 25) rfl rfl rfl (decide_eq_true hc20) ?_
    refine q_skip (dst := some 27) (t := 25) rfl rfl rfl (decide_eq_true hc20) ?_
    refine q_skip (dst := some 28) (t := 25) rfl rfl rfl (decide_eq_true hc20) ?_
    refine q_skip_u (dst := some 29) (t := 28) rfl rfl rfl ?_
    try simp only [HAct.put, List.set_cons_zero, List.set_cons_succ]
    refine q_skip_u (dst := some 30) (t := 28) rfl rfl rfl ?_
    refine q_skip_u (dst := some 31) (t := 28) rfl rfl rfl ?_
    refine q_skip (dst := some 32) (t := 25) rfl rfl rfl (decide_eq_true hc20) ?_
    refine q_op (dst := some 33) rfl (fun _ ho => ok_pick_tt ho (.tmp rfl) (decide_eq_true hc20) (.bool _)) ?_
    try simp only [HAct.put, List.set_cons_zero, List.set_cons_succ]
    try simp only [HAct.put, List.set_cons_zero, List.set_cons_succ]
    exact J1_snd hD hH h
  · obtain ⟨p47, hp47, h⟩ := bindo h
    obtain ⟨p48, hp48, h⟩ := bindo h
    refine q_op_g (t := 25) (dst := some 26) rfl rfl rfl (decide_eq_false hc20) (fun _ ho => ok_load_s ho sc9 (.tmp rfl) hp47 (ldS_out hp48)) ?_
    refine q_op_g (t := 25) (dst := some 27) rfl rfl rfl (decide_eq_false hc20) (fun _ ho => ok_sbin ho (.tmp rfl) (.str _) rfl) ?_
    refine q_op_g (t := 25) (dst := some 28) rfl rfl rfl (decide_eq_false hc20) (fun _ ho => ok_move ho (.tmp rfl)) ?_
    rcases ifc h with ⟨hc49, h⟩ | ⟨hc49, h⟩
    · refine q_op_g (t := 28) (dst := some 29) rfl rfl rfl hc49 (fun _ ho => ok_move ho (.tmp rfl)) ?_
      try simp only [HAct.put, List.set_cons_zero, List.set_cons_succ]
      obtain ⟨p50, hp50, h⟩ := bindo h
      obtain ⟨p51, hp51, h⟩ := bindo h
      refine q_op_g (t := 28) (dst := some 30) rfl rfl rfl hc49 (fun _ ho => ok_load_s ho sc4 (.tmp rfl) hp50 (ldB_out hp51)) ?_
      refine q_op_g (t := 28) (dst := some 31) rfl rfl rfl hc49 (fun _ ho => ok_beq ho tu4 (.inl ⟨rfl, rfl⟩) (.tmp rfl) (.tmp rfl)) ?_
      refine q_op_g (t := 25) (dst := some 32) rfl rfl rfl (decide_eq_false hc20) (fun _ ho => ok_pick_tt ho (.tmp rfl) hc49 (.tmp rfl)) ?_
      try simp only [HAct.put, List.set_cons_zero, List.set_cons_succ]
      exact J4_snd hD hH h
    · refine q_skip (dst := some 29) (t := 28) rfl rfl rfl (bfalse hc49) ?_
      try simp only [HAct.put, List.set_cons_zero, List.set_cons_succ]
      refine q_skip (dst := some 30) (t := 28) rfl rfl rfl (bfalse hc49) ?_
      refine q_skip (dst := some 31) (t := 28) rfl rfl rfl (bfalse hc49) ?_
      refine q_op_g (t := 25) (dst := some 32) rfl rfl rfl (decide_eq_false hc20) (fun _ ho => ok_pick_ff ho (.tmp rfl) (bfalse hc49) (.bool _)) ?_
      try simp only [HAct.put, List.set_cons_zero, List.set_cons_succ]
      exact J4_snd hD hH h
def J6 (D : Dp) (H : Hd) (k : Nat) (y69 : Bool) (ds : List Nat) (S : HS) : Option ((Bool) × HS) :=
  (Option.bind (HS.leave S ds) fun p68 =>
  some (y69, p68))
theorem J6_snd {D : Dp} {H : Hd} {k : Nat} (hD : DSound Try.prog base W0 D) (hH : HSound Try.prog base W0 β0 H)  {y69 : Bool} {ds : List Nat} {S : HS} {p : (Bool) × HS} {g0 g1 g2 g3 g4 g5 g6 g7 g8 g9 g10 g11 g12 g13 g14 g15 g16 g17 g18 g19 g20 g21 g22 g23 g24 g25 g26 g27 g28 g29 g30 g31 g32 g33 g34 g35 g36 g37 g38 g39 g40 g41 g42 g43 g44 g45 g46 g47 g48 g49 g50 g51 g52 g53 g54 g55 g56 g57 g58 g59 g60 g61 g62 g63 g64 g65 g66 g67 g68 : HV} (h : J6 D H k y69 ds S = some p) : HRun Try.prog base W0 β0 8 none [.inRegion r70 [6], .code c71] ⟨[g0, g1, g2, g3, g4, g5, g6, g7, g8, g9, g10, g11, g12, g13, g14, g15, g16, g17, g18, g19, g20, g21, g22, g23, g24, g25, g26, g27, g28, g29, g30, g31, g32, g33, g34, g35, g36, g37, g38, g39, g40, g41, g42, g43, g44, g45, g46, g47, g48, g49, g50, g51, g52, g53, g54, g55, g56, g57, g58, g59, g60, g61, g62, g63, g64, g65, g66, g67, g68, (.bool y69)], ds⟩ S (fun v S1 => v = (.bool p.1) ∧ S1 = p.2) := by
  unfold J6 at h
  refine q_op (dst := some 2) rfl (fun _ ho => ok_assign ho (.tmp rfl)) ?_
  refine hr_region_end ?_
  try simp only [HAct.put, List.set_cons_zero, List.set_cons_succ]
  obtain ⟨p68, hp68, h⟩ := bindo h
  cases h
  exact q_ret e71 at_.at_ hp68 (res1 rfl rfl) ⟨rfl, rfl⟩
def J5 (D : Dp) (H : Hd) (k : Nat) (y1 : (Option HA)) (y3 : (Option HA)) (y5 : (Option HA)) (ds : List Nat) (S : HS) : Option ((Bool) × HS) :=
  (Option.bind (y5) fun p61 =>
  (Option.bind (HS.ldB S p61) fun p62 =>
  (if p62 = true then
  (Option.bind (y3) fun p64 =>
  (Option.bind (HS.ldS S p64) fun p65 =>
  (Option.bind (y1) fun p66 =>
  (Option.bind (HS.ldS S p66) fun p67 =>
  J6 D H k (decide (p65 = p67)) ds S)))) else
  J6 D H k false ds S)))
theorem J5_snd {D : Dp} {H : Hd} {k : Nat} (hD : DSound Try.prog base W0 D) (hH : HSound Try.prog base W0 β0 H)  {y1 : (Option HA)} {y3 : (Option HA)} {y5 : (Option HA)} {ds : List Nat} {S : HS} {p : (Bool) × HS} {g0 g2 g4 g6 g7 g8 g9 g10 g11 g12 g13 g14 g15 g16 g17 g18 g19 g20 g21 g22 g23 g24 g25 g26 g27 g28 g29 g30 g31 g32 g33 g34 g35 g36 g37 g38 g39 g40 g41 g42 g43 g44 g45 g46 g47 g48 g49 g50 g51 g52 g53 g54 g55 g56 g57 g58 g59 g60 g61 g62 g63 g64 g65 g66 g67 g68 g69 : HV} (h : J5 D H k y1 y3 y5 ds S = some p) : HRun Try.prog base W0 β0 8 none [.code c69] ⟨[g0, (.ptr y1), g2, (.ptr y3), g4, (.ptr y5), g6, g7, g8, g9, g10, g11, g12, g13, g14, g15, g16, g17, g18, g19, g20, g21, g22, g23, g24, g25, g26, g27, g28, g29, g30, g31, g32, g33, g34, g35, g36, g37, g38, g39, g40, g41, g42, g43, g44, g45, g46, g47, g48, g49, g50, g51, g52, g53, g54, g55, g56, g57, g58, g59, g60, g61, g62, g63, g64, g65, g66, g67, g68, g69], ds⟩ S (fun v S1 => v = (.bool p.1) ∧ S1 = p.2) := by
  unfold J5 at h
  refine q_seq e69 ?_
  refine q_region e70 rfl ?_
  obtain ⟨p61, hp61, h⟩ := bindo h
  obtain ⟨p62, hp62, h⟩ := bindo h
  refine q_op (dst := some 64) rfl (fun _ ho => ok_load_s ho sc4 (.tmp rfl) hp61 (ldB_out hp62)) ?_
  refine q_op (dst := some 65) rfl (fun _ ho => ok_move ho (.tmp rfl)) ?_
  rcases ifc h with ⟨hc63, h⟩ | ⟨hc63, h⟩
  · obtain ⟨p64, hp64, h⟩ := bindo h
    obtain ⟨p65, hp65, h⟩ := bindo h
    refine q_op_g (t := 65) (dst := some 66) rfl rfl rfl hc63 (fun _ ho => ok_load_s ho sc9 (.tmp rfl) hp64 (ldS_out hp65)) ?_
    obtain ⟨p66, hp66, h⟩ := bindo h
    obtain ⟨p67, hp67, h⟩ := bindo h
    refine q_op_g (t := 65) (dst := some 67) rfl rfl rfl hc63 (fun _ ho => ok_load_s ho sc9 (.tmp rfl) hp66 (ldS_out hp67)) ?_
    try simp only [HAct.put, List.set_cons_zero, List.set_cons_succ]
    refine q_op_g (t := 65) (dst := some 68) rfl rfl rfl hc63 (fun _ ho => ok_sbin ho (.tmp rfl) (.tmp rfl) rfl) ?_
    refine q_op (dst := some 69) rfl (fun _ ho => ok_pick_tt ho (.tmp rfl) hc63 (.tmp rfl)) ?_
    try simp only [HAct.put, List.set_cons_zero, List.set_cons_succ]
    exact J6_snd hD hH h
  · refine q_skip (dst := some 66) (t := 65) rfl rfl rfl (bfalse hc63) ?_
    refine q_skip (dst := some 67) (t := 65) rfl rfl rfl (bfalse hc63) ?_
    try simp only [HAct.put, List.set_cons_zero, List.set_cons_succ]
    refine q_skip (dst := some 68) (t := 65) rfl rfl rfl (bfalse hc63) ?_
    refine q_op (dst := some 69) rfl (fun _ ho => ok_pick_ff ho (.tmp rfl) (bfalse hc63) (.bool _)) ?_
    try simp only [HAct.put, List.set_cons_zero, List.set_cons_succ]
    exact J6_snd hD hH h
def f (D : Dp) (H : Hd) (k : Nat) (x0 : (List UInt8)) (S : HS) : Option ((Bool) × HS) :=
  (letv (HS.new S (.cells 1 [[(.str x0)]] true)) fun p1 =>
  (Option.bind (rollcalllaw01_awake.f k p1) fun p2 =>
  (if (!p2.1) = true then
  (Option.bind (HS.leave p2.2 []) fun p4 =>
  some (false, p4)) else
  (Option.bind (HS.ldS p2.2 (HA.cell0 S.next)) fun p5 =>
  (if (List.length p5 : Int) > 200 then
  (Option.bind (HS.leave p2.2 []) fun p7 =>
  some (true, p7)) else
  (letv (HS.new p2.2 (.cells 1 [[(.str [])]] true)) fun p8 =>
  (Option.bind (HS.sets p8 (HA.cell0 p2.2.next) [(.str ([] : List UInt8))]) fun p9 =>
  (letv (HS.new p9 (.cells 1 [[(.bool false)]] true)) fun p10 =>
  (Option.bind (HS.sets p10 (HA.cell0 p9.next) [(.bool false)]) fun p11 =>
  (letv (HS.new p11 (.cells 1 [[(.bool false)]] true)) fun p12 =>
  (Option.bind (HS.sets p12 (HA.cell0 p11.next) [(.bool true)]) fun p13 =>
  (Option.bind (HS.ldS p13 (HA.cell0 S.next)) fun p14 =>
  (Option.bind (fold_Runs.f p14 p13) fun p15 =>
  (Option.bind (HV.isNilFn p15.1) fun p16 =>
  (if (p16) = true then
  (Option.bind (HS.leave p15.2 []) fun p18 =>
  some (false, p18)) else
  (Option.bind (D (Hd.set H (HS.next p15.2 + 1) fun vs T =>
  (Option.bind (HS.lp T (HS.next p15.2 + 1)) fun u56 =>
  (Option.bind (args2 vs) fun ar53 =>
  (Option.bind (dS ar53.1) fun p54 =>
  (Option.bind (dB ar53.2) fun p55 =>
  (J0 D H k (HS.next p15.2 + 1) (some (HA.cell0 S.next)) (some (HA.cell0 p2.2.next)) (some (HA.cell0 p9.next)) (some (HA.cell0 p11.next)) p54 p55 T)))))) p15.1 [.fn (.yield (HS.next p15.2 + 1)) [] []] (HS.new (HS.new p15.2 .defer) (.loop .ready none))) fun p57 =>
  (Option.bind (HS.finish p57.2 (HS.next p15.2 + 1)) fun p58 =>
  (Option.bind (pcode p58.1) fun n59 =>
  (if n59 = 0 then
  J5 D H k (some (HA.cell0 S.next)) (some (HA.cell0 p2.2.next)) (some (HA.cell0 p11.next)) (HS.next p15.2 :: []) p58.2 else
  (if n59 = 2 then
  J5 D H k (some (HA.cell0 S.next)) (some (HA.cell0 p2.2.next)) (some (HA.cell0 p11.next)) (HS.next p15.2 :: []) p58.2 else
  none))))))))))))))))))))
theorem snd {D : Dp} {H : Hd} {k : Nat} {x0 : (List UInt8)} {S : HS} (hD : DSound Try.prog base W0 D) (hH : HSound Try.prog base W0 β0 H)  {p : (Bool) × HS} (h : f D H k x0 S = some p) : HCall Try.prog base W0 β0 8 [(.str x0)] S (fun v S1 => v = (.bool p.1) ∧ S1 = p.2) := by
  unfold f at h
  refine HCall.of_run at_.at_ body ?_
  show HRun Try.prog base W0 β0 8 none [.code c0] ⟨[(.str x0), .tup [], .tup [], .tup [], .tup [], .tup [], .tup [], .tup [], .tup [], .tup [], .tup [], .tup [], .tup [], .tup [], .tup [], .tup [], .tup [], .tup [], .tup [], .tup [], .tup [], .tup [], .tup [], .tup [], .tup [], .tup [], .tup [], .tup [], .tup [], .tup [], .tup [], .tup [], .tup [], .tup [], .tup [], .tup [], .tup [], .tup [], .tup [], .tup [], .tup [], .tup [], .tup [], .tup [], .tup [], .tup [], .tup [], .tup [], .tup [], .tup [], .tup [], .tup [], .tup [], .tup [], .tup [], .tup [], .tup [], .tup [], .tup [], .tup [], .tup [], .tup [], .tup [], .tup [], .tup [], .tup [], .tup [], .tup [], .tup [], .tup []], []⟩ S _
  refine q_seq e0 ?_
  refine q_region e1 rfl ?_
  obtain ⟨p1, hp1, h⟩ := leto h
  refine q_op (dst := some 1) rfl (fun _ ho => ok_box_e ho (.tmp rfl) (Nat.zero_lt_succ _) rfl hp1) ?_
  refine q_op (dst := some 2) rfl (fun _ ho => ok_assign ho (.bool _)) ?_
  refine hr_region_end ?_
  try simp only [HAct.put, List.set_cons_zero, List.set_cons_succ]
  refine q_seq e2 ?_
  refine q_seq e3 ?_
  refine q_region e4 rfl ?_
  obtain ⟨p2, hp2, h⟩ := bindo h
  refine q_call (dst := some 10) rfl (.func _) Evs.nil (HInv.static rollcalllaw01_awake.at_ rollcalllaw01_awake.body (rollcalllaw01_awake.snd  hp2)) ?_
  rintro _ _ ⟨rfl, rfl⟩
  refine q_op (dst := some 11) rfl (fun _ ho => ok_not ho (.tmp rfl)) ?_
  refine hr_region_end ?_
  try simp only [HAct.put, List.set_cons_zero, List.set_cons_succ]
  rcases ifc h with ⟨hc3, h⟩ | ⟨hc3, h⟩
  · refine q_cond_t e5 (.tmp rfl) hc3 ?_
    refine q_seq e6 ?_
    refine q_region e7 rfl ?_
    refine q_op (dst := some 2) rfl (fun _ ho => ok_assign ho (.bool _)) ?_
    refine hr_region_end ?_
    try simp only [HAct.put, List.set_cons_zero, List.set_cons_succ]
    obtain ⟨p4, hp4, h⟩ := bindo h
    cases h
    exact q_ret e8 at_.at_ hp4 (res1 rfl rfl) ⟨rfl, rfl⟩
  · refine q_cond_f e5 (.tmp rfl) (bfalse hc3) ?_
    refine q_skipc e9 ?_
    refine q_seq e10 ?_
    refine q_seq e11 ?_
    refine q_region e12 rfl ?_
    obtain ⟨p5, hp5, h⟩ := bindo h
    refine q_op (dst := some 12) rfl (fun _ ho => ok_load_s ho sc9 (.tmp rfl) rfl (ldS_out hp5)) ?_
    refine q_op (dst := some 13) rfl (fun _ ho => ok_len_str ho rfl tu9 (.tmp rfl)) ?_
    refine q_op (dst := some 14) rfl (fun _ ho => ok_ibin ho (.tmp rfl) (.int _ _) rfl) ?_
    refine hr_region_end ?_
    try simp only [HAct.put, List.set_cons_zero, List.set_cons_succ]
    rcases ifc h with ⟨hc6, h⟩ | ⟨hc6, h⟩
    · refine q_cond_t e13 (.tmp rfl) (decide_eq_true hc6) ?_
      refine q_seq e14 ?_
      refine q_region e15 rfl ?_
      refine q_op (dst := some 2) rfl (fun _ ho => ok_assign ho (.bool _)) ?_
      refine hr_region_end ?_
      try simp only [HAct.put, List.set_cons_zero, List.set_cons_succ]
      obtain ⟨p7, hp7, h⟩ := bindo h
      cases h
      exact q_ret e16 at_.at_ hp7 (res1 rfl rfl) ⟨rfl, rfl⟩
    · refine q_cond_f e13 (.tmp rfl) (decide_eq_false hc6) ?_
      refine q_skipc e17 ?_
      refine q_seq e18 ?_
      refine q_region e19 rfl ?_
      obtain ⟨p8, hp8, h⟩ := leto h
      refine q_op (dst := some 3) rfl (fun _ ho => ok_alloc_e ho zi9 zr9 (by decide) rfl hp8) ?_
      obtain ⟨p9, hp9, h⟩ := bindo h
      refine q_op (dst := none) rfl (fun _ ho => ok_store_s (v := (.str ([] : List UInt8))) ho sz9 (.tmp rfl) rfl (.str _) rfl hp9) ?_
      refine hr_region_end ?_
      try simp only [HAct.put, List.set_cons_zero, List.set_cons_succ]
      refine q_seq e20 ?_
      refine q_region e21 rfl ?_
      obtain ⟨p10, hp10, h⟩ := leto h
      refine q_op (dst := some 4) rfl (fun _ ho => ok_alloc_e ho zi4 zr4 (by decide) rfl hp10) ?_
      obtain ⟨p11, hp11, h⟩ := bindo h
      refine q_op (dst := none) rfl (fun _ ho => ok_store_s (v := (.bool false)) ho sz4 (.tmp rfl) rfl (.bool _) rfl hp11) ?_
      refine hr_region_end ?_
      try simp only [HAct.put, List.set_cons_zero, List.set_cons_succ]
      refine q_seq e22 ?_
      refine q_region e23 rfl ?_
      obtain ⟨p12, hp12, h⟩ := leto h
      refine q_op (dst := some 5) rfl (fun _ ho => ok_alloc_e ho zi4 zr4 (by decide) rfl hp12) ?_
      obtain ⟨p13, hp13, h⟩ := bindo h
      refine q_op (dst := none) rfl (fun _ ho => ok_store_s (v := (.bool true)) ho sz4 (.tmp rfl) rfl (.bool _) rfl hp13) ?_
      refine hr_region_end ?_
      try simp only [HAct.put, List.set_cons_zero, List.set_cons_succ]
      refine q_seq e24 ?_
      refine q_region e25 rfl ?_
      obtain ⟨p14, hp14, h⟩ := bindo h
      refine q_op (dst := some 15) rfl (fun _ ho => ok_load_s ho sc9 (.tmp rfl) rfl (ldS_out hp14)) ?_
      obtain ⟨p15, hp15, h⟩ := bindo h
      refine q_call (dst := some 16) rfl (.func _) (.cons (.tmp rfl) Evs.nil) (HInv.static fold_Runs.at_ fold_Runs.body (fold_Runs.snd  hp15)) ?_
      rintro _ _ ⟨rfl, rfl⟩
      refine q_op (dst := some 6) rfl (fun _ ho => ok_assign ho (.tmp rfl)) ?_
      refine hr_region_end ?_
      try simp only [HAct.put, List.set_cons_zero, List.set_cons_succ]
      refine q_seq e26 ?_
      refine q_seq e27 ?_
      refine q_region e28 rfl ?_
      refine q_op (dst := some 17) rfl (fun _ ho => ok_move ho (.tmp rfl)) ?_
      obtain ⟨p16, hp16, h⟩ := bindo h
      refine q_op (dst := some 18) rfl (fun _ ho => ok_nil_fn ho tu32 (.tmp rfl) hp16 (.inl ⟨rfl, rfl⟩)) ?_
      refine hr_region_end ?_
      try simp only [HAct.put, List.set_cons_zero, List.set_cons_succ]
      rcases ifc h with ⟨hc17, h⟩ | ⟨hc17, h⟩
      · refine q_cond_t e29 (.tmp rfl) hc17 ?_
        refine q_seq e30 ?_
        refine q_region e31 rfl ?_
        refine q_op (dst := some 2) rfl (fun _ ho => ok_assign ho (.bool _)) ?_
        refine hr_region_end ?_
        try simp only [HAct.put, List.set_cons_zero, List.set_cons_succ]
        obtain ⟨p18, hp18, h⟩ := bindo h
        cases h
        exact q_ret e32 at_.at_ hp18 (res1 rfl rfl) ⟨rfl, rfl⟩
      · refine q_cond_f e29 (.tmp rfl) (bfalse hc17) ?_
        refine q_skipc e33 ?_
        refine q_seq e34 ?_
        refine q_seq e35 ?_
        refine q_region e36 rfl ?_
        refine q_op (dst := some 19) rfl (fun _ ho => ok_move ho (.tmp rfl)) ?_
        refine hr_region_end ?_
        try simp only [HAct.put, List.set_cons_zero, List.set_cons_succ]
        refine q_block e37 ?_
        obtain ⟨p57, hp57, h⟩ := bindo h
        obtain ⟨p58, hp58, h⟩ := bindo h
        obtain ⟨n59, hn59, h⟩ := bindo h
        refine q_range (D := D) (H := H) e38 (.tmp rfl) hD hH hp57 hp58 ?_ ?_
        · intro β1 hle hLA vs T u T' hr
          obtain ⟨u56, hu56, hr⟩ := bindo hr
          obtain ⟨ar53, har53, hr⟩ := bindo hr
          obtain ⟨p54, hp54, hr⟩ := bindo hr
          obtain ⟨p55, hp55, hr⟩ := bindo hr
          rw [args2_out har53]
          refine q_yield2 hLA hu56 rfl rfl ?_
          rw [dS_out hp54, dB_out hp55]
          simp only [HAct.params, List.set_cons_zero, List.set_cons_succ]
          exact J0_snd hD (hH.up hle) hr
        · rcases ifc h with ⟨hc60, h⟩ | ⟨hc60, h⟩
          · rw [pcode0 hn59 hc60]
            simp only [jumped_none, jumped_some]
            refine hr_inBlock ?_
            try simp only [HAct.put, List.set_cons_zero, List.set_cons_succ]
            exact J5_snd hD hH h
          · rcases ifc h with ⟨hc69, h⟩ | ⟨hc69, h⟩
            · rw [pcodeX hn59 hc69]
              simp only [jumped_none, jumped_some]
              refine q_exit rfl rfl ?_
              try simp only [HAct.put, List.set_cons_zero, List.set_cons_succ]
              exact J5_snd hD hH h
            · cases h
end
end rollcalllaw01_FoldRuns
section
variable {base : Nat} {W0 : World} {β0 : Bt}
def call_20 (D : Dp) (H : Hd) (k : Nat) (vs : List HV) (S : HS) : Option (HV × HS) :=
  Option.bind (args2 vs) fun a =>
  Option.bind (dF a.1) fun p0 =>
  Option.bind (dP a.2) fun p1 =>
  Option.bind (fold_Runs_1.f D H k p0 p1 S) fun q =>
  some (.tup [], q.2)
theorem call_20_snd {D : Dp} {H : Hd} {k : Nat} (hD : DSound Try.prog base W0 D) (hH : HSound Try.prog base W0 β0 H) {vs : List HV} {S : HS} {p : HV × HS} (h : call_20 D H k vs S = some p) : HCall Try.prog base W0 β0 20 vs S (fun v1 S1 => v1 = p.1 ∧ S1 = p.2) := by
  unfold call_20 at h
  obtain ⟨a, ha, h⟩ := bindo h
  obtain ⟨p0, hp0, h⟩ := bindo h
  obtain ⟨p1, hp1, h⟩ := bindo h
  obtain ⟨q, hq, h⟩ := bindo h
  rw [args2_out ha, dF_out hp0, dP_out hp1]
  cases h
  exact fold_Runs_1.snd hD hH hq
def disp (k : Nat) : Nat → Dp
  | 0 => fun _ _ _ _ => none
  | n + 1 => fun H fv vs S => match fv with
    | .fn (.yield l) [] [] => Option.bind (H l) fun r => r vs S
    | .fn (.func f) xs ys => if f = 20 then call_20 (disp k n) H k (xs ++ vs ++ ys) S else none
    | _ => none
theorem disp_func {k n : Nat} {H : Hd} {f : Nat} {xs ys vs : List HV} {S : HS} : disp k (n + 1) H (.fn (.func f) xs ys) vs S = (if f = 20 then call_20 (disp k n) H k (xs ++ vs ++ ys) S else none) := rfl
theorem disp_yield {k n : Nat} {H : Hd} {l : Nat} {vs : List HV} {S : HS} : disp k (n + 1) H (.fn (.yield l) [] []) vs S = Option.bind (H l) fun r => r vs S := rfl
theorem disp_snd {k : Nat} : ∀ n, DSound Try.prog base W0 (disp k n) := by
  intro n
  induction n with
  | zero => intro _ _ _ _ _ _ _ _ h; cases h
  | succ n ih =>
    intro β0 H hH fv vs S v S' h
    unfold disp at h
    split at h
    · obtain ⟨r, hr, h⟩ := bindo h
      exact hH _ _ hr _ _ _ _ h
    · skip
      rcases ifc h with ⟨hf, h⟩ | ⟨hf, h⟩
      · subst hf; exact HInv.func fold_Runs_1.at_ fold_Runs_1.body (call_20_snd ih hH h)
      cases h
    · cases h
end
end Go.Proofs.Ytigobginglaieaa.X
