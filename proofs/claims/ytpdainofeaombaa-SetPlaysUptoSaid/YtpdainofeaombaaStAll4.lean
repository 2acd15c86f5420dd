/- Functions of the program, each as a Lean function over the layer HL: a call answers what the Lean function answers, where it answers. -/
import Derived.Test.YtpdainofeaombaaProg
import Derived.Test.YtpdainofeaombaaStAll3
namespace Go.Proofs.Ytpdainofeaombaa.X
open Go.Proofs.Ytpdainofeaombaa.HL
set_option linter.unusedVariables false
set_option linter.unusedSimpArgs false
set_option maxRecDepth 20000
set_option maxHeartbeats 4000000
namespace rollcalllaw10_SetStays
abbrev id : Nat := 5
theorem at_ : FnAt Try.prog 5 Try.f5 := ⟨Try.func5, by kernel_rfl⟩
noncomputable def c0 : Code := (Try.f5.body).getD .skip
noncomputable def c1 : Code := match c0 with | .seq x _ => x | _ => .skip
noncomputable def c2 : Code := match c0 with | .seq _ x => x | _ => .skip
noncomputable def c3 : Code := match c2 with | .seq x _ => x | _ => .skip
noncomputable def c4 : Code := match c3 with | .seq x _ => x | _ => .skip
noncomputable def c5 : Code := match c3 with | .seq _ x => x | _ => .skip
noncomputable def c6 : Code := match c5 with | .cond _ x _ => x | _ => .skip
noncomputable def c7 : Code := match c6 with | .seq x _ => x | _ => .skip
noncomputable def c8 : Code := match c6 with | .seq _ x => x | _ => .skip
noncomputable def c9 : Code := match c5 with | .cond _ _ x => x | _ => .skip
noncomputable def c10 : Code := match c2 with | .seq _ x => x | _ => .skip
noncomputable def c11 : Code := match c10 with | .seq x _ => x | _ => .skip
noncomputable def c12 : Code := match c11 with | .seq x _ => x | _ => .skip
noncomputable def c13 : Code := match c11 with | .seq _ x => x | _ => .skip
noncomputable def c14 : Code := match c13 with | .cond _ x _ => x | _ => .skip
noncomputable def c15 : Code := match c14 with | .seq x _ => x | _ => .skip
noncomputable def c16 : Code := match c14 with | .seq _ x => x | _ => .skip
noncomputable def c17 : Code := match c13 with | .cond _ _ x => x | _ => .skip
noncomputable def c18 : Code := match c10 with | .seq _ x => x | _ => .skip
noncomputable def c19 : Code := match c18 with | .seq x _ => x | _ => .skip
noncomputable def c20 : Code := match c18 with | .seq _ x => x | _ => .skip
noncomputable def c21 : Code := match c20 with | .seq x _ => x | _ => .skip
noncomputable def c22 : Code := match c20 with | .seq _ x => x | _ => .skip
noncomputable def c23 : Code := match c22 with | .seq x _ => x | _ => .skip
noncomputable def c24 : Code := match c22 with | .seq _ x => x | _ => .skip
noncomputable def c25 : Code := match c24 with | .seq x _ => x | _ => .skip
noncomputable def c26 : Code := match c24 with | .seq _ x => x | _ => .skip
noncomputable def c27 : Code := match c26 with | .seq x _ => x | _ => .skip
noncomputable def c28 : Code := match c26 with | .seq _ x => x | _ => .skip
noncomputable def c29 : Code := match c28 with | .seq x _ => x | _ => .skip
noncomputable def c30 : Code := match c28 with | .seq _ x => x | _ => .skip
noncomputable def c31 : Code := match c30 with | .seq x _ => x | _ => .skip
noncomputable def c32 : Code := match c30 with | .seq _ x => x | _ => .skip
noncomputable def c33 : Code := match c32 with | .seq x _ => x | _ => .skip
noncomputable def c34 : Code := match c32 with | .seq _ x => x | _ => .skip
noncomputable def c35 : Code := match c34 with | .seq x _ => x | _ => .skip
noncomputable def c36 : Code := match c34 with | .seq _ x => x | _ => .skip
noncomputable def c37 : Code := match c36 with | .seq x _ => x | _ => .skip
noncomputable def c38 : Code := match c36 with | .seq _ x => x | _ => .skip
noncomputable def c39 : Code := match c38 with | .seq x _ => x | _ => .skip
noncomputable def c40 : Code := match c38 with | .seq _ x => x | _ => .skip
noncomputable def c41 : Code := match c40 with | .seq x _ => x | _ => .skip
noncomputable def c42 : Code := match c40 with | .seq _ x => x | _ => .skip
noncomputable def c43 : Code := match c42 with | .seq x _ => x | _ => .skip
noncomputable def c44 : Code := match c42 with | .seq _ x => x | _ => .skip
theorem e0 : c0 = .seq c1 c2 := by kernel_rfl
noncomputable def r1 : Array Oper := match c1 with | .region _ x _ => x | _ => #[]
theorem e1 : c1 = .region 0 r1 false := by kernel_rfl
theorem e2 : c2 = .seq c3 c10 := by kernel_rfl
theorem e3 : c3 = .seq c4 c5 := by kernel_rfl
noncomputable def r4 : Array Oper := match c4 with | .region _ x _ => x | _ => #[]
theorem e4 : c4 = .region 1 r4 false := by kernel_rfl
theorem e5 : c5 = .cond (.tmp 21) c6 c9 := by kernel_rfl
theorem e6 : c6 = .seq c7 c8 := by kernel_rfl
noncomputable def r7 : Array Oper := match c7 with | .region _ x _ => x | _ => #[]
theorem e7 : c7 = .region 2 r7 false := by kernel_rfl
theorem e8 : c8 = .ret := by kernel_rfl
theorem e9 : c9 = .skip := by kernel_rfl
theorem e10 : c10 = .seq c11 c18 := by kernel_rfl
theorem e11 : c11 = .seq c12 c13 := by kernel_rfl
noncomputable def r12 : Array Oper := match c12 with | .region _ x _ => x | _ => #[]
theorem e12 : c12 = .region 3 r12 false := by kernel_rfl
theorem e13 : c13 = .cond (.tmp 29) c14 c17 := by kernel_rfl
theorem e14 : c14 = .seq c15 c16 := by kernel_rfl
noncomputable def r15 : Array Oper := match c15 with | .region _ x _ => x | _ => #[]
theorem e15 : c15 = .region 4 r15 false := by kernel_rfl
theorem e16 : c16 = .ret := by kernel_rfl
theorem e17 : c17 = .skip := by kernel_rfl
theorem e18 : c18 = .seq c19 c20 := by kernel_rfl
noncomputable def r19 : Array Oper := match c19 with | .region _ x _ => x | _ => #[]
theorem e19 : c19 = .region 5 r19 false := by kernel_rfl
theorem e20 : c20 = .seq c21 c22 := by kernel_rfl
noncomputable def r21 : Array Oper := match c21 with | .region _ x _ => x | _ => #[]
theorem e21 : c21 = .region 6 r21 false := by kernel_rfl
theorem e22 : c22 = .seq c23 c24 := by kernel_rfl
noncomputable def r23 : Array Oper := match c23 with | .region _ x _ => x | _ => #[]
theorem e23 : c23 = .region 7 r23 false := by kernel_rfl
theorem e24 : c24 = .seq c25 c26 := by kernel_rfl
noncomputable def r25 : Array Oper := match c25 with | .region _ x _ => x | _ => #[]
theorem e25 : c25 = .region 8 r25 false := by kernel_rfl
theorem e26 : c26 = .seq c27 c28 := by kernel_rfl
noncomputable def r27 : Array Oper := match c27 with | .region _ x _ => x | _ => #[]
theorem e27 : c27 = .region 9 r27 false := by kernel_rfl
theorem e28 : c28 = .seq c29 c30 := by kernel_rfl
noncomputable def r29 : Array Oper := match c29 with | .region _ x _ => x | _ => #[]
theorem e29 : c29 = .region 10 r29 false := by kernel_rfl
theorem e30 : c30 = .seq c31 c32 := by kernel_rfl
noncomputable def r31 : Array Oper := match c31 with | .region _ x _ => x | _ => #[]
theorem e31 : c31 = .region 11 r31 false := by kernel_rfl
theorem e32 : c32 = .seq c33 c34 := by kernel_rfl
noncomputable def r33 : Array Oper := match c33 with | .region _ x _ => x | _ => #[]
theorem e33 : c33 = .region 12 r33 false := by kernel_rfl
theorem e34 : c34 = .seq c35 c36 := by kernel_rfl
noncomputable def r35 : Array Oper := match c35 with | .region _ x _ => x | _ => #[]
theorem e35 : c35 = .region 13 r35 false := by kernel_rfl
theorem e36 : c36 = .seq c37 c38 := by kernel_rfl
noncomputable def r37 : Array Oper := match c37 with | .region _ x _ => x | _ => #[]
theorem e37 : c37 = .region 14 r37 false := by kernel_rfl
theorem e38 : c38 = .seq c39 c40 := by kernel_rfl
noncomputable def r39 : Array Oper := match c39 with | .region _ x _ => x | _ => #[]
theorem e39 : c39 = .region 15 r39 false := by kernel_rfl
theorem e40 : c40 = .seq c41 c42 := by kernel_rfl
noncomputable def r41 : Array Oper := match c41 with | .region _ x _ => x | _ => #[]
theorem e41 : c41 = .region 16 r41 false := by kernel_rfl
theorem e42 : c42 = .seq c43 c44 := by kernel_rfl
noncomputable def r43 : Array Oper := match c43 with | .region _ x _ => x | _ => #[]
theorem e43 : c43 = .region 17 r43 false := by kernel_rfl
theorem e44 : c44 = .ret := by kernel_rfl
theorem body : Try.f5.body = some c0 := by kernel_rfl
section
variable {base : Nat} {W0 : World} {β0 : Bt}
def J14 (D : Dp) (H : Hd) (k : Nat) (y148 : Bool) (S : HS) : Option ((Bool) × HS) :=
  some (y148, S)
theorem J14_snd {D : Dp} {H : Hd} {k : Nat} (hD : DSound Try.prog base W0 D) (hH : HSound Try.prog base W0 β0 H)  {y148 : Bool} {S : HS} {p : (Bool) × HS} {g0 g1 g2 g3 g4 g5 g6 g7 g8 g9 g10 g11 g12 g13 g14 g15 g16 g17 g18 g19 g20 g21 g22 g23 g24 g25 g26 g27 g28 g29 g30 g31 g32 g33 g34 g35 g36 g37 g38 g39 g40 g41 g42 g43 g44 g45 g46 g47 g48 g49 g50 g51 g52 g53 g54 g55 g56 g57 g58 g59 g60 g61 g62 g63 g64 g65 g66 g67 g68 g69 g70 g71 g72 g73 g74 g75 g76 g77 g78 g79 g80 g81 g82 g83 g84 g85 g86 g87 g88 g89 g90 g91 g92 g93 g94 g95 g96 g97 g98 g99 g100 g101 g102 g103 g104 g105 g106 g107 g108 g109 g110 g111 g112 g113 g114 g115 g116 g117 g118 g119 g120 g121 g122 g123 g124 g125 g126 g127 g128 g129 g130 g131 g132 g133 g134 g135 g136 g137 g138 g139 g140 g141 g142 g143 g144 g145 g146 g147 : HV} (h : J14 D H k y148 S = some p) : HRun Try.prog base W0 β0 5 none [.inRegion r43 [75], .code c44] ⟨[g0, g1, g2, g3, g4, g5, g6, g7, g8, g9, g10, g11, g12, g13, g14, g15, g16, g17, g18, g19, g20, g21, g22, g23, g24, g25, g26, g27, g28, g29, g30, g31, g32, g33, g34, g35, g36, g37, g38, g39, g40, g41, g42, g43, g44, g45, g46, g47, g48, g49, g50, g51, g52, g53, g54, g55, g56, g57, g58, g59, g60, g61, g62, g63, g64, g65, g66, g67, g68, g69, g70, g71, g72, g73, g74, g75, g76, g77, g78, g79, g80, g81, g82, g83, g84, g85, g86, g87, g88, g89, g90, g91, g92, g93, g94, g95, g96, g97, g98, g99, g100, g101, g102, g103, g104, g105, g106, g107, g108, g109, g110, g111, g112, g113, g114, g115, g116, g117, g118, g119, g120, g121, g122, g123, g124, g125, g126, g127, g128, g129, g130, g131, g132, g133, g134, g135, g136, g137, g138, g139, g140, g141, g142, g143, g144, g145, g146, g147, (.bool y148)], []⟩ S (fun v S1 => v = (.bool p.1) ∧ S1 = p.2) := by
  unfold J14 at h
  refine q_op (dst := some 4) rfl (fun _ ho => ok_assign ho (.tmp rfl)) ?_
  refine hr_region_end ?_
  try dsimp only [HAct.put, List.set_cons_zero, List.set_cons_succ]
  cases h
  exact q_ret e44 at_.at_ rfl (res1 rfl rfl) ⟨rfl, rfl⟩
def J13 (D : Dp) (H : Hd) (k : Nat) (y5 : (Option HA)) (y15 : (Option HA)) (y142 : Bool) (S : HS) : Option ((Bool) × HS) :=
  (if y142 = true then
  (Option.bind (set_Meet_int.f D H k y5 y15 S) fun p44 =>
  J14 D H k (!p44.1) p44.2) else
  J14 D H k false S)
theorem J13_snd {D : Dp} {H : Hd} {k : Nat} (hD : DSound Try.prog base W0 D) (hH : HSound Try.prog base W0 β0 H)  {y5 : (Option HA)} {y15 : (Option HA)} {y142 : Bool} {S : HS} {p : (Bool) × HS} {g0 g1 g2 g3 g4 g6 g7 g8 g9 g10 g11 g12 g13 g14 g16 g17 g18 g19 g20 g21 g22 g23 g24 g25 g26 g27 g28 g29 g30 g31 g32 g33 g34 g35 g36 g37 g38 g39 g40 g41 g42 g43 g44 g45 g46 g47 g48 g49 g50 g51 g52 g53 g54 g55 g56 g57 g58 g59 g60 g61 g62 g63 g64 g65 g66 g67 g68 g69 g70 g71 g72 g73 g74 g75 g76 g77 g78 g79 g80 g81 g82 g83 g84 g85 g86 g87 g88 g89 g90 g91 g92 g93 g94 g95 g96 g97 g98 g99 g100 g101 g102 g103 g104 g105 g106 g107 g108 g109 g110 g111 g112 g113 g114 g115 g116 g117 g118 g119 g120 g121 g122 g123 g124 g125 g126 g127 g128 g129 g130 g131 g132 g133 g134 g135 g136 g137 g138 g139 g140 g141 g143 g144 g145 g146 g147 g148 : HV} (h : J13 D H k y5 y15 y142 S = some p) : HRun Try.prog base W0 β0 5 none [.inRegion r43 [69, 70, 71, 72, 73, 74, 75], .code c44] ⟨[g0, g1, g2, g3, g4, (.ptr y5), g6, g7, g8, g9, g10, g11, g12, g13, g14, (.ptr y15), g16, g17, g18, g19, g20, g21, g22, g23, g24, g25, g26, g27, g28, g29, g30, g31, g32, g33, g34, g35, g36, g37, g38, g39, g40, g41, g42, g43, g44, g45, g46, g47, g48, g49, g50, g51, g52, g53, g54, g55, g56, g57, g58, g59, g60, g61, g62, g63, g64, g65, g66, g67, g68, g69, g70, g71, g72, g73, g74, g75, g76, g77, g78, g79, g80, g81, g82, g83, g84, g85, g86, g87, g88, g89, g90, g91, g92, g93, g94, g95, g96, g97, g98, g99, g100, g101, g102, g103, g104, g105, g106, g107, g108, g109, g110, g111, g112, g113, g114, g115, g116, g117, g118, g119, g120, g121, g122, g123, g124, g125, g126, g127, g128, g129, g130, g131, g132, g133, g134, g135, g136, g137, g138, g139, g140, g141, (.bool y142), g143, g144, g145, g146, g147, g148], []⟩ S (fun v S1 => v = (.bool p.1) ∧ S1 = p.2) := by
  unfold J13 at h
  refine q_op (dst := some 143) rfl (fun _ ho => ok_move ho (.tmp rfl)) ?_
  rcases ifc h with ⟨hc43, h⟩ | ⟨hc43, h⟩
  · refine q_op_g (t := 143) (dst := some 144) rfl rfl rfl hc43 (fun _ ho => ok_move ho (.tmp rfl)) ?_
    refine q_op_g (t := 143) (dst := some 145) rfl rfl rfl hc43 (fun _ ho => ok_move ho (.tmp rfl)) ?_
    try dsimp only [HAct.put, List.set_cons_zero, List.set_cons_succ]
    obtain ⟨p44, hp44, h⟩ := bindo h
    refine q_call_g (t := 143) (dst := some 146) rfl rfl rfl hc43 (.func _) (.cons (.tmp rfl) (.cons (.tmp rfl) Evs.nil)) (HInv.static set_Meet_int.at_ set_Meet_int.body (set_Meet_int.snd hD hH hp44)) ?_
    rintro _ _ ⟨rfl, rfl⟩
    refine q_op_g (t := 143) (dst := some 147) rfl rfl rfl hc43 (fun _ ho => ok_not ho (.tmp rfl)) ?_
    refine q_op (dst := some 148) rfl (fun _ ho => ok_pick_tt ho (.tmp rfl) hc43 (.tmp rfl)) ?_
    try dsimp only [HAct.put, List.set_cons_zero, List.set_cons_succ]
    exact J14_snd hD hH h
  · refine q_skip (dst := some 144) (t := 143) rfl rfl rfl (bfalse hc43) ?_
    refine q_skip (dst := some 145) (t := 143) rfl rfl rfl (bfalse hc43) ?_
    try dsimp only [HAct.put, List.set_cons_zero, List.set_cons_succ]
    refine q_skip (dst := some 146) (t := 143) rfl rfl rfl (bfalse hc43) ?_
    refine q_skip (dst := some 147) (t := 143) rfl rfl rfl (bfalse hc43) ?_
    refine q_op (dst := some 148) rfl (fun _ ho => ok_pick_ff ho (.tmp rfl) (bfalse hc43) (.bool _)) ?_
    try dsimp only [HAct.put, List.set_cons_zero, List.set_cons_succ]
    exact J14_snd hD hH h
def J12 (D : Dp) (H : Hd) (k : Nat) (y5 : (Option HA)) (y15 : (Option HA)) (y136 : Bool) (S : HS) : Option ((Bool) × HS) :=
  (if y136 = true then
  (Option.bind (set_Meet_int.f D H k y15 y5 S) fun p42 =>
  J13 D H k y5 y15 (!p42.1) p42.2) else
  J13 D H k y5 y15 false S)
theorem J12_snd {D : Dp} {H : Hd} {k : Nat} (hD : DSound Try.prog base W0 D) (hH : HSound Try.prog base W0 β0 H)  {y5 : (Option HA)} {y15 : (Option HA)} {y136 : Bool} {S : HS} {p : (Bool) × HS} {g0 g1 g2 g3 g4 g6 g7 g8 g9 g10 g11 g12 g13 g14 g16 g17 g18 g19 g20 g21 g22 g23 g24 g25 g26 g27 g28 g29 g30 g31 g32 g33 g34 g35 g36 g37 g38 g39 g40 g41 g42 g43 g44 g45 g46 g47 g48 g49 g50 g51 g52 g53 g54 g55 g56 g57 g58 g59 g60 g61 g62 g63 g64 g65 g66 g67 g68 g69 g70 g71 g72 g73 g74 g75 g76 g77 g78 g79 g80 g81 g82 g83 g84 g85 g86 g87 g88 g89 g90 g91 g92 g93 g94 g95 g96 g97 g98 g99 g100 g101 g102 g103 g104 g105 g106 g107 g108 g109 g110 g111 g112 g113 g114 g115 g116 g117 g118 g119 g120 g121 g122 g123 g124 g125 g126 g127 g128 g129 g130 g131 g132 g133 g134 g135 g137 g138 g139 g140 g141 g142 g143 g144 g145 g146 g147 g148 : HV} (h : J12 D H k y5 y15 y136 S = some p) : HRun Try.prog base W0 β0 5 none [.inRegion r43 [63, 64, 65, 66, 67, 68, 69, 70, 71, 72, 73, 74, 75], .code c44] ⟨[g0, g1, g2, g3, g4, (.ptr y5), g6, g7, g8, g9, g10, g11, g12, g13, g14, (.ptr y15), g16, g17, g18, g19, g20, g21, g22, g23, g24, g25, g26, g27, g28, g29, g30, g31, g32, g33, g34, g35, g36, g37, g38, g39, g40, g41, g42, g43, g44, g45, g46, g47, g48, g49, g50, g51, g52, g53, g54, g55, g56, g57, g58, g59, g60, g61, g62, g63, g64, g65, g66, g67, g68, g69, g70, g71, g72, g73, g74, g75, g76, g77, g78, g79, g80, g81, g82, g83, g84, g85, g86, g87, g88, g89, g90, g91, g92, g93, g94, g95, g96, g97, g98, g99, g100, g101, g102, g103, g104, g105, g106, g107, g108, g109, g110, g111, g112, g113, g114, g115, g116, g117, g118, g119, g120, g121, g122, g123, g124, g125, g126, g127, g128, g129, g130, g131, g132, g133, g134, g135, (.bool y136), g137, g138, g139, g140, g141, g142, g143, g144, g145, g146, g147, g148], []⟩ S (fun v S1 => v = (.bool p.1) ∧ S1 = p.2) := by
  unfold J12 at h
  refine q_op (dst := some 137) rfl (fun _ ho => ok_move ho (.tmp rfl)) ?_
  try dsimp only [HAct.put, List.set_cons_zero, List.set_cons_succ]
  rcases ifc h with ⟨hc41, h⟩ | ⟨hc41, h⟩
  · refine q_op_g (t := 137) (dst := some 138) rfl rfl rfl hc41 (fun _ ho => ok_move ho (.tmp rfl)) ?_
    refine q_op_g (t := 137) (dst := some 139) rfl rfl rfl hc41 (fun _ ho => ok_move ho (.tmp rfl)) ?_
    obtain ⟨p42, hp42, h⟩ := bindo h
    refine q_call_g (t := 137) (dst := some 140) rfl rfl rfl hc41 (.func _) (.cons (.tmp rfl) (.cons (.tmp rfl) Evs.nil)) (HInv.static set_Meet_int.at_ set_Meet_int.body (set_Meet_int.snd hD hH hp42)) ?_
    rintro _ _ ⟨rfl, rfl⟩
    refine q_op_g (t := 137) (dst := some 141) rfl rfl rfl hc41 (fun _ ho => ok_not ho (.tmp rfl)) ?_
    try dsimp only [HAct.put, List.set_cons_zero, List.set_cons_succ]
    refine q_op (dst := some 142) rfl (fun _ ho => ok_pick_tt ho (.tmp rfl) hc41 (.tmp rfl)) ?_
    try dsimp only [HAct.put, List.set_cons_zero, List.set_cons_succ]
    exact J13_snd hD hH h
  · refine q_skip (dst := some 138) (t := 137) rfl rfl rfl (bfalse hc41) ?_
    refine q_skip (dst := some 139) (t := 137) rfl rfl rfl (bfalse hc41) ?_
    refine q_skip (dst := some 140) (t := 137) rfl rfl rfl (bfalse hc41) ?_
    refine q_skip (dst := some 141) (t := 137) rfl rfl rfl (bfalse hc41) ?_
    try dsimp only [HAct.put, List.set_cons_zero, List.set_cons_succ]
    refine q_op (dst := some 142) rfl (fun _ ho => ok_pick_ff ho (.tmp rfl) (bfalse hc41) (.bool _)) ?_
    try dsimp only [HAct.put, List.set_cons_zero, List.set_cons_succ]
    exact J13_snd hD hH h
def J11 (D : Dp) (H : Hd) (k : Nat) (y5 : (Option HA)) (y15 : (Option HA)) (y130 : Bool) (S : HS) : Option ((Bool) × HS) :=
  (if y130 = true then
  (Option.bind (set_Set_int_List.f y15 S) fun p40 =>
  J12 D H k y5 y15 (decide ((Sl.len p40.1 : Int) = 0)) p40.2) else
  J12 D H k y5 y15 false S)
theorem J11_snd {D : Dp} {H : Hd} {k : Nat} (hD : DSound Try.prog base W0 D) (hH : HSound Try.prog base W0 β0 H)  {y5 : (Option HA)} {y15 : (Option HA)} {y130 : Bool} {S : HS} {p : (Bool) × HS} {g0 g1 g2 g3 g4 g6 g7 g8 g9 g10 g11 g12 g13 g14 g16 g17 g18 g19 g20 g21 g22 g23 g24 g25 g26 g27 g28 g29 g30 g31 g32 g33 g34 g35 g36 g37 g38 g39 g40 g41 g42 g43 g44 g45 g46 g47 g48 g49 g50 g51 g52 g53 g54 g55 g56 g57 g58 g59 g60 g61 g62 g63 g64 g65 g66 g67 g68 g69 g70 g71 g72 g73 g74 g75 g76 g77 g78 g79 g80 g81 g82 g83 g84 g85 g86 g87 g88 g89 g90 g91 g92 g93 g94 g95 g96 g97 g98 g99 g100 g101 g102 g103 g104 g105 g106 g107 g108 g109 g110 g111 g112 g113 g114 g115 g116 g117 g118 g119 g120 g121 g122 g123 g124 g125 g126 g127 g128 g129 g131 g132 g133 g134 g135 g136 g137 g138 g139 g140 g141 g142 g143 g144 g145 g146 g147 g148 : HV} (h : J11 D H k y5 y15 y130 S = some p) : HRun Try.prog base W0 β0 5 none [.inRegion r43 [57, 58, 59, 60, 61, 62, 63, 64, 65, 66, 67, 68, 69, 70, 71, 72, 73, 74, 75], .code c44] ⟨[g0, g1, g2, g3, g4, (.ptr y5), g6, g7, g8, g9, g10, g11, g12, g13, g14, (.ptr y15), g16, g17, g18, g19, g20, g21, g22, g23, g24, g25, g26, g27, g28, g29, g30, g31, g32, g33, g34, g35, g36, g37, g38, g39, g40, g41, g42, g43, g44, g45, g46, g47, g48, g49, g50, g51, g52, g53, g54, g55, g56, g57, g58, g59, g60, g61, g62, g63, g64, g65, g66, g67, g68, g69, g70, g71, g72, g73, g74, g75, g76, g77, g78, g79, g80, g81, g82, g83, g84, g85, g86, g87, g88, g89, g90, g91, g92, g93, g94, g95, g96, g97, g98, g99, g100, g101, g102, g103, g104, g105, g106, g107, g108, g109, g110, g111, g112, g113, g114, g115, g116, g117, g118, g119, g120, g121, g122, g123, g124, g125, g126, g127, g128, g129, (.bool y130), g131, g132, g133, g134, g135, g136, g137, g138, g139, g140, g141, g142, g143, g144, g145, g146, g147, g148], []⟩ S (fun v S1 => v = (.bool p.1) ∧ S1 = p.2) := by
  unfold J11 at h
  refine q_op (dst := some 131) rfl (fun _ ho => ok_move ho (.tmp rfl)) ?_
  rcases ifc h with ⟨hc39, h⟩ | ⟨hc39, h⟩
  · refine q_op_g (t := 131) (dst := some 132) rfl rfl rfl hc39 (fun _ ho => ok_move ho (.tmp rfl)) ?_
    obtain ⟨p40, hp40, h⟩ := bindo h
    refine q_call_g (t := 131) (dst := some 133) rfl rfl rfl hc39 (.func _) (.cons (.tmp rfl) Evs.nil) (HInv.static set_Set_int_List.at_ set_Set_int_List.body (set_Set_int_List.snd  hp40)) ?_
    rintro _ _ ⟨rfl, rfl⟩
    try dsimp only [HAct.put, List.set_cons_zero, List.set_cons_succ]
    refine q_op_g (t := 131) (dst := some 134) rfl rfl rfl hc39 (fun _ ho => ok_len_sl (q := Sl.a p40.1) (n := Sl.len p40.1) (z := Sl.cap p40.1) ho rfl tu24 (.tmp rfl)) ?_
    refine q_op_g (t := 131) (dst := some 135) rfl rfl rfl hc39 (fun _ ho => ok_ibin ho (.tmp rfl) (.int _ _) rfl) ?_
    refine q_op (dst := some 136) rfl (fun _ ho => ok_pick_tt ho (.tmp rfl) hc39 (.tmp rfl)) ?_
    try dsimp only [HAct.put, List.set_cons_zero, List.set_cons_succ]
    exact J12_snd hD hH h
  · refine q_skip (dst := some 132) (t := 131) rfl rfl rfl (bfalse hc39) ?_
    refine q_skip (dst := some 133) (t := 131) rfl rfl rfl (bfalse hc39) ?_
    try dsimp only [HAct.put, List.set_cons_zero, List.set_cons_succ]
    refine q_skip (dst := some 134) (t := 131) rfl rfl rfl (bfalse hc39) ?_
    refine q_skip (dst := some 135) (t := 131) rfl rfl rfl (bfalse hc39) ?_
    refine q_op (dst := some 136) rfl (fun _ ho => ok_pick_ff ho (.tmp rfl) (bfalse hc39) (.bool _)) ?_
    try dsimp only [HAct.put, List.set_cons_zero, List.set_cons_succ]
    exact J12_snd hD hH h
def J10 (D : Dp) (H : Hd) (k : Nat) (y5 : (Option HA)) (y15 : (Option HA)) (y125 : Bool) (S : HS) : Option ((Bool) × HS) :=
  (if y125 = true then
  (Option.bind (set_Set_int_Len.f y15 S) fun p38 =>
  J11 D H k y5 y15 (decide (p38.1 = 0)) p38.2) else
  J11 D H k y5 y15 false S)
theorem J10_snd {D : Dp} {H : Hd} {k : Nat} (hD : DSound Try.prog base W0 D) (hH : HSound Try.prog base W0 β0 H)  {y5 : (Option HA)} {y15 : (Option HA)} {y125 : Bool} {S : HS} {p : (Bool) × HS} {g0 g1 g2 g3 g4 g6 g7 g8 g9 g10 g11 g12 g13 g14 g16 g17 g18 g19 g20 g21 g22 g23 g24 g25 g26 g27 g28 g29 g30 g31 g32 g33 g34 g35 g36 g37 g38 g39 g40 g41 g42 g43 g44 g45 g46 g47 g48 g49 g50 g51 g52 g53 g54 g55 g56 g57 g58 g59 g60 g61 g62 g63 g64 g65 g66 g67 g68 g69 g70 g71 g72 g73 g74 g75 g76 g77 g78 g79 g80 g81 g82 g83 g84 g85 g86 g87 g88 g89 g90 g91 g92 g93 g94 g95 g96 g97 g98 g99 g100 g101 g102 g103 g104 g105 g106 g107 g108 g109 g110 g111 g112 g113 g114 g115 g116 g117 g118 g119 g120 g121 g122 g123 g124 g126 g127 g128 g129 g130 g131 g132 g133 g134 g135 g136 g137 g138 g139 g140 g141 g142 g143 g144 g145 g146 g147 g148 : HV} (h : J10 D H k y5 y15 y125 S = some p) : HRun Try.prog base W0 β0 5 none [.inRegion r43 [52, 53, 54, 55, 56, 57, 58, 59, 60, 61, 62, 63, 64, 65, 66, 67, 68, 69, 70, 71, 72, 73, 74, 75], .code c44] ⟨[g0, g1, g2, g3, g4, (.ptr y5), g6, g7, g8, g9, g10, g11, g12, g13, g14, (.ptr y15), g16, g17, g18, g19, g20, g21, g22, g23, g24, g25, g26, g27, g28, g29, g30, g31, g32, g33, g34, g35, g36, g37, g38, g39, g40, g41, g42, g43, g44, g45, g46, g47, g48, g49, g50, g51, g52, g53, g54, g55, g56, g57, g58, g59, g60, g61, g62, g63, g64, g65, g66, g67, g68, g69, g70, g71, g72, g73, g74, g75, g76, g77, g78, g79, g80, g81, g82, g83, g84, g85, g86, g87, g88, g89, g90, g91, g92, g93, g94, g95, g96, g97, g98, g99, g100, g101, g102, g103, g104, g105, g106, g107, g108, g109, g110, g111, g112, g113, g114, g115, g116, g117, g118, g119, g120, g121, g122, g123, g124, (.bool y125), g126, g127, g128, g129, g130, g131, g132, g133, g134, g135, g136, g137, g138, g139, g140, g141, g142, g143, g144, g145, g146, g147, g148], []⟩ S (fun v S1 => v = (.bool p.1) ∧ S1 = p.2) := by
  unfold J10 at h
  refine q_op (dst := some 126) rfl (fun _ ho => ok_move ho (.tmp rfl)) ?_
  rcases ifc h with ⟨hc37, h⟩ | ⟨hc37, h⟩
  · refine q_op_g (t := 126) (dst := some 127) rfl rfl rfl hc37 (fun _ ho => ok_move ho (.tmp rfl)) ?_
    obtain ⟨p38, hp38, h⟩ := bindo h
    refine q_call_g (t := 126) (dst := some 128) rfl rfl rfl hc37 (.func _) (.cons (.tmp rfl) Evs.nil) (HInv.static set_Set_int_Len.at_ set_Set_int_Len.body (set_Set_int_Len.snd  hp38)) ?_
    rintro _ _ ⟨rfl, rfl⟩
    refine q_op_g (t := 126) (dst := some 129) rfl rfl rfl hc37 (fun _ ho => ok_ibin ho (.tmp rfl) (.int _ _) rfl) ?_
    try dsimp only [HAct.put, List.set_cons_zero, List.set_cons_succ]
    refine q_op (dst := some 130) rfl (fun _ ho => ok_pick_tt ho (.tmp rfl) hc37 (.tmp rfl)) ?_
    try dsimp only [HAct.put, List.set_cons_zero, List.set_cons_succ]
    exact J11_snd hD hH h
  · refine q_skip (dst := some 127) (t := 126) rfl rfl rfl (bfalse hc37) ?_
    refine q_skip (dst := some 128) (t := 126) rfl rfl rfl (bfalse hc37) ?_
    refine q_skip (dst := some 129) (t := 126) rfl rfl rfl (bfalse hc37) ?_
    try dsimp only [HAct.put, List.set_cons_zero, List.set_cons_succ]
    refine q_op (dst := some 130) rfl (fun _ ho => ok_pick_ff ho (.tmp rfl) (bfalse hc37) (.bool _)) ?_
    try dsimp only [HAct.put, List.set_cons_zero, List.set_cons_succ]
    exact J11_snd hD hH h
def J9 (D : Dp) (H : Hd) (k : Nat) (y5 : (Option HA)) (y15 : (Option HA)) (y120 : Bool) (S : HS) : Option ((Bool) × HS) :=
  (if y120 = true then
  (Option.bind (set_Set_int_Has.f k y15 1 S) fun p36 =>
  J10 D H k y5 y15 (!p36.1) p36.2) else
  J10 D H k y5 y15 false S)
theorem J9_snd {D : Dp} {H : Hd} {k : Nat} (hD : DSound Try.prog base W0 D) (hH : HSound Try.prog base W0 β0 H)  {y5 : (Option HA)} {y15 : (Option HA)} {y120 : Bool} {S : HS} {p : (Bool) × HS} {g0 g1 g2 g3 g4 g6 g7 g8 g9 g10 g11 g12 g13 g14 g16 g17 g18 g19 g20 g21 g22 g23 g24 g25 g26 g27 g28 g29 g30 g31 g32 g33 g34 g35 g36 g37 g38 g39 g40 g41 g42 g43 g44 g45 g46 g47 g48 g49 g50 g51 g52 g53 g54 g55 g56 g57 g58 g59 g60 g61 g62 g63 g64 g65 g66 g67 g68 g69 g70 g71 g72 g73 g74 g75 g76 g77 g78 g79 g80 g81 g82 g83 g84 g85 g86 g87 g88 g89 g90 g91 g92 g93 g94 g95 g96 g97 g98 g99 g100 g101 g102 g103 g104 g105 g106 g107 g108 g109 g110 g111 g112 g113 g114 g115 g116 g117 g118 g119 g121 g122 g123 g124 g125 g126 g127 g128 g129 g130 g131 g132 g133 g134 g135 g136 g137 g138 g139 g140 g141 g142 g143 g144 g145 g146 g147 g148 : HV} (h : J9 D H k y5 y15 y120 S = some p) : HRun Try.prog base W0 β0 5 none [.inRegion r43 [47, 48, 49, 50, 51, 52, 53, 54, 55, 56, 57, 58, 59, 60, 61, 62, 63, 64, 65, 66, 67, 68, 69, 70, 71, 72, 73, 74, 75], .code c44] ⟨[g0, g1, g2, g3, g4, (.ptr y5), g6, g7, g8, g9, g10, g11, g12, g13, g14, (.ptr y15), g16, g17, g18, g19, g20, g21, g22, g23, g24, g25, g26, g27, g28, g29, g30, g31, g32, g33, g34, g35, g36, g37, g38, g39, g40, g41, g42, g43, g44, g45, g46, g47, g48, g49, g50, g51, g52, g53, g54, g55, g56, g57, g58, g59, g60, g61, g62, g63, g64, g65, g66, g67, g68, g69, g70, g71, g72, g73, g74, g75, g76, g77, g78, g79, g80, g81, g82, g83, g84, g85, g86, g87, g88, g89, g90, g91, g92, g93, g94, g95, g96, g97, g98, g99, g100, g101, g102, g103, g104, g105, g106, g107, g108, g109, g110, g111, g112, g113, g114, g115, g116, g117, g118, g119, (.bool y120), g121, g122, g123, g124, g125, g126, g127, g128, g129, g130, g131, g132, g133, g134, g135, g136, g137, g138, g139, g140, g141, g142, g143, g144, g145, g146, g147, g148], []⟩ S (fun v S1 => v = (.bool p.1) ∧ S1 = p.2) := by
  unfold J9 at h
  refine q_op (dst := some 121) rfl (fun _ ho => ok_move ho (.tmp rfl)) ?_
  try dsimp only [HAct.put, List.set_cons_zero, List.set_cons_succ]
  rcases ifc h with ⟨hc35, h⟩ | ⟨hc35, h⟩
  · refine q_op_g (t := 121) (dst := some 122) rfl rfl rfl hc35 (fun _ ho => ok_move ho (.tmp rfl)) ?_
    obtain ⟨p36, hp36, h⟩ := bindo h
    refine q_call_g (t := 121) (dst := some 123) rfl rfl rfl hc35 (.func _) (.cons (.tmp rfl) (.cons (.int _ _) Evs.nil)) (HInv.static set_Set_int_Has.at_ set_Set_int_Has.body (set_Set_int_Has.snd  hp36)) ?_
    rintro _ _ ⟨rfl, rfl⟩
    refine q_op_g (t := 121) (dst := some 124) rfl rfl rfl hc35 (fun _ ho => ok_not ho (.tmp rfl)) ?_
    refine q_op (dst := some 125) rfl (fun _ ho => ok_pick_tt ho (.tmp rfl) hc35 (.tmp rfl)) ?_
    try dsimp only [HAct.put, List.set_cons_zero, List.set_cons_succ]
    try dsimp only [HAct.put, List.set_cons_zero, List.set_cons_succ]
    exact J10_snd hD hH h
  · refine q_skip (dst := some 122) (t := 121) rfl rfl rfl (bfalse hc35) ?_
    refine q_skip (dst := some 123) (t := 121) rfl rfl rfl (bfalse hc35) ?_
    refine q_skip (dst := some 124) (t := 121) rfl rfl rfl (bfalse hc35) ?_
    refine q_op (dst := some 125) rfl (fun _ ho => ok_pick_ff ho (.tmp rfl) (bfalse hc35) (.bool _)) ?_
    try dsimp only [HAct.put, List.set_cons_zero, List.set_cons_succ]
    try dsimp only [HAct.put, List.set_cons_zero, List.set_cons_succ]
    exact J10_snd hD hH h
def J8 (D : Dp) (H : Hd) (k : Nat) (y5 : (Option HA)) (y15 : (Option HA)) (y114 : Bool) (S : HS) : Option ((Bool) × HS) :=
  (if y114 = true then
  (letv (HS.lit S [[(.int .i64 1)]] 1) fun p33 =>
  (Option.bind (set_Set_int_Remove.f k y15 (p33.1) (p33.2)) fun p34 =>
  J9 D H k y5 y15 (decide (p34.1 = 0)) p34.2)) else
  J9 D H k y5 y15 false S)
theorem J8_snd {D : Dp} {H : Hd} {k : Nat} (hD : DSound Try.prog base W0 D) (hH : HSound Try.prog base W0 β0 H)  {y5 : (Option HA)} {y15 : (Option HA)} {y114 : Bool} {S : HS} {p : (Bool) × HS} {g0 g1 g2 g3 g4 g6 g7 g8 g9 g10 g11 g12 g13 g14 g16 g17 g18 g19 g20 g21 g22 g23 g24 g25 g26 g27 g28 g29 g30 g31 g32 g33 g34 g35 g36 g37 g38 g39 g40 g41 g42 g43 g44 g45 g46 g47 g48 g49 g50 g51 g52 g53 g54 g55 g56 g57 g58 g59 g60 g61 g62 g63 g64 g65 g66 g67 g68 g69 g70 g71 g72 g73 g74 g75 g76 g77 g78 g79 g80 g81 g82 g83 g84 g85 g86 g87 g88 g89 g90 g91 g92 g93 g94 g95 g96 g97 g98 g99 g100 g101 g102 g103 g104 g105 g106 g107 g108 g109 g110 g111 g112 g113 g115 g116 g117 g118 g119 g120 g121 g122 g123 g124 g125 g126 g127 g128 g129 g130 g131 g132 g133 g134 g135 g136 g137 g138 g139 g140 g141 g142 g143 g144 g145 g146 g147 g148 : HV} (h : J8 D H k y5 y15 y114 S = some p) : HRun Try.prog base W0 β0 5 none [.inRegion r43 [41, 42, 43, 44, 45, 46, 47, 48, 49, 50, 51, 52, 53, 54, 55, 56, 57, 58, 59, 60, 61, 62, 63, 64, 65, 66, 67, 68, 69, 70, 71, 72, 73, 74, 75], .code c44] ⟨[g0, g1, g2, g3, g4, (.ptr y5), g6, g7, g8, g9, g10, g11, g12, g13, g14, (.ptr y15), g16, g17, g18, g19, g20, g21, g22, g23, g24, g25, g26, g27, g28, g29, g30, g31, g32, g33, g34, g35, g36, g37, g38, g39, g40, g41, g42, g43, g44, g45, g46, g47, g48, g49, g50, g51, g52, g53, g54, g55, g56, g57, g58, g59, g60, g61, g62, g63, g64, g65, g66, g67, g68, g69, g70, g71, g72, g73, g74, g75, g76, g77, g78, g79, g80, g81, g82, g83, g84, g85, g86, g87, g88, g89, g90, g91, g92, g93, g94, g95, g96, g97, g98, g99, g100, g101, g102, g103, g104, g105, g106, g107, g108, g109, g110, g111, g112, g113, (.bool y114), g115, g116, g117, g118, g119, g120, g121, g122, g123, g124, g125, g126, g127, g128, g129, g130, g131, g132, g133, g134, g135, g136, g137, g138, g139, g140, g141, g142, g143, g144, g145, g146, g147, g148], []⟩ S (fun v S1 => v = (.bool p.1) ∧ S1 = p.2) := by
  unfold J8 at h
  refine q_op (dst := some 115) rfl (fun _ ho => ok_move ho (.tmp rfl)) ?_
  rcases ifc h with ⟨hc32, h⟩ | ⟨hc32, h⟩
  · refine q_op_g (t := 115) (dst := some 116) rfl rfl rfl hc32 (fun _ ho => ok_move ho (.tmp rfl)) ?_
    obtain ⟨p33, hp33, h⟩ := leto h
    refine q_op_g (t := 115) (dst := some 117) rfl rfl rfl hc32 (fun _ ho => ok_buildSlice_s (xs := [(.const (.int .i64 1))]) el24 ho rfl rfl (by decide) (.cons (.int _ _) Evs.nil) rfl rfl hp33) ?_
    try dsimp only [HAct.put, List.set_cons_zero, List.set_cons_succ]
    obtain ⟨p34, hp34, h⟩ := bindo h
    refine q_call_g (t := 115) (dst := some 118) rfl rfl rfl hc32 (.func _) (.cons (.tmp rfl) (.cons (.tmp rfl) Evs.nil)) (HInv.static set_Set_int_Remove.at_ set_Set_int_Remove.body (set_Set_int_Remove.snd  hp34)) ?_
    rintro _ _ ⟨rfl, rfl⟩
    refine q_op_g (t := 115) (dst := some 119) rfl rfl rfl hc32 (fun _ ho => ok_ibin ho (.tmp rfl) (.int _ _) rfl) ?_
    refine q_op (dst := some 120) rfl (fun _ ho => ok_pick_tt ho (.tmp rfl) hc32 (.tmp rfl)) ?_
    try dsimp only [HAct.put, List.set_cons_zero, List.set_cons_succ]
    exact J9_snd hD hH h
  · refine q_skip (dst := some 116) (t := 115) rfl rfl rfl (bfalse hc32) ?_
    refine q_skip (dst := some 117) (t := 115) rfl rfl rfl (bfalse hc32) ?_
    try dsimp only [HAct.put, List.set_cons_zero, List.set_cons_succ]
    refine q_skip (dst := some 118) (t := 115) rfl rfl rfl (bfalse hc32) ?_
    refine q_skip (dst := some 119) (t := 115) rfl rfl rfl (bfalse hc32) ?_
    refine q_op (dst := some 120) rfl (fun _ ho => ok_pick_ff ho (.tmp rfl) (bfalse hc32) (.bool _)) ?_
    try dsimp only [HAct.put, List.set_cons_zero, List.set_cons_succ]
    exact J9_snd hD hH h
def J7 (D : Dp) (H : Hd) (k : Nat) (y5 : (Option HA)) (y15 : (Option HA)) (y108 : Bool) (S : HS) : Option ((Bool) × HS) :=
  (if y108 = true then
  (letv (HS.lit S [[(.int .i64 1)]] 1) fun p30 =>
  (Option.bind (set_Set_int_Add.f k y15 (p30.1) (p30.2)) fun p31 =>
  J8 D H k y5 y15 (decide (p31.1 = 0)) p31.2)) else
  J8 D H k y5 y15 false S)
theorem J7_snd {D : Dp} {H : Hd} {k : Nat} (hD : DSound Try.prog base W0 D) (hH : HSound Try.prog base W0 β0 H)  {y5 : (Option HA)} {y15 : (Option HA)} {y108 : Bool} {S : HS} {p : (Bool) × HS} {g0 g1 g2 g3 g4 g6 g7 g8 g9 g10 g11 g12 g13 g14 g16 g17 g18 g19 g20 g21 g22 g23 g24 g25 g26 g27 g28 g29 g30 g31 g32 g33 g34 g35 g36 g37 g38 g39 g40 g41 g42 g43 g44 g45 g46 g47 g48 g49 g50 g51 g52 g53 g54 g55 g56 g57 g58 g59 g60 g61 g62 g63 g64 g65 g66 g67 g68 g69 g70 g71 g72 g73 g74 g75 g76 g77 g78 g79 g80 g81 g82 g83 g84 g85 g86 g87 g88 g89 g90 g91 g92 g93 g94 g95 g96 g97 g98 g99 g100 g101 g102 g103 g104 g105 g106 g107 g109 g110 g111 g112 g113 g114 g115 g116 g117 g118 g119 g120 g121 g122 g123 g124 g125 g126 g127 g128 g129 g130 g131 g132 g133 g134 g135 g136 g137 g138 g139 g140 g141 g142 g143 g144 g145 g146 g147 g148 : HV} (h : J7 D H k y5 y15 y108 S = some p) : HRun Try.prog base W0 β0 5 none [.inRegion r43 [35, 36, 37, 38, 39, 40, 41, 42, 43, 44, 45, 46, 47, 48, 49, 50, 51, 52, 53, 54, 55, 56, 57, 58, 59, 60, 61, 62, 63, 64, 65, 66, 67, 68, 69, 70, 71, 72, 73, 74, 75], .code c44] ⟨[g0, g1, g2, g3, g4, (.ptr y5), g6, g7, g8, g9, g10, g11, g12, g13, g14, (.ptr y15), g16, g17, g18, g19, g20, g21, g22, g23, g24, g25, g26, g27, g28, g29, g30, g31, g32, g33, g34, g35, g36, g37, g38, g39, g40, g41, g42, g43, g44, g45, g46, g47, g48, g49, g50, g51, g52, g53, g54, g55, g56, g57, g58, g59, g60, g61, g62, g63, g64, g65, g66, g67, g68, g69, g70, g71, g72, g73, g74, g75, g76, g77, g78, g79, g80, g81, g82, g83, g84, g85, g86, g87, g88, g89, g90, g91, g92, g93, g94, g95, g96, g97, g98, g99, g100, g101, g102, g103, g104, g105, g106, g107, (.bool y108), g109, g110, g111, g112, g113, g114, g115, g116, g117, g118, g119, g120, g121, g122, g123, g124, g125, g126, g127, g128, g129, g130, g131, g132, g133, g134, g135, g136, g137, g138, g139, g140, g141, g142, g143, g144, g145, g146, g147, g148], []⟩ S (fun v S1 => v = (.bool p.1) ∧ S1 = p.2) := by
  unfold J7 at h
  refine q_op (dst := some 109) rfl (fun _ ho => ok_move ho (.tmp rfl)) ?_
  try dsimp only [HAct.put, List.set_cons_zero, List.set_cons_succ]
  rcases ifc h with ⟨hc29, h⟩ | ⟨hc29, h⟩
  · refine q_op_g (t := 109) (dst := some 110) rfl rfl rfl hc29 (fun _ ho => ok_move ho (.tmp rfl)) ?_
    obtain ⟨p30, hp30, h⟩ := leto h
    refine q_op_g (t := 109) (dst := some 111) rfl rfl rfl hc29 (fun _ ho => ok_buildSlice_s (xs := [(.const (.int .i64 1))]) el24 ho rfl rfl (by decide) (.cons (.int _ _) Evs.nil) rfl rfl hp30) ?_
    obtain ⟨p31, hp31, h⟩ := bindo h
    refine q_call_g (t := 109) (dst := some 112) rfl rfl rfl hc29 (.func _) (.cons (.tmp rfl) (.cons (.tmp rfl) Evs.nil)) (HInv.static set_Set_int_Add.at_ set_Set_int_Add.body (set_Set_int_Add.snd  hp31)) ?_
    rintro _ _ ⟨rfl, rfl⟩
    refine q_op_g (t := 109) (dst := some 113) rfl rfl rfl hc29 (fun _ ho => ok_ibin ho (.tmp rfl) (.int _ _) rfl) ?_
    try dsimp only [HAct.put, List.set_cons_zero, List.set_cons_succ]
    refine q_op (dst := some 114) rfl (fun _ ho => ok_pick_tt ho (.tmp rfl) hc29 (.tmp rfl)) ?_
    try dsimp only [HAct.put, List.set_cons_zero, List.set_cons_succ]
    exact J8_snd hD hH h
  · refine q_skip (dst := some 110) (t := 109) rfl rfl rfl (bfalse hc29) ?_
    refine q_skip (dst := some 111) (t := 109) rfl rfl rfl (bfalse hc29) ?_
    refine q_skip (dst := some 112) (t := 109) rfl rfl rfl (bfalse hc29) ?_
    refine q_skip (dst := some 113) (t := 109) rfl rfl rfl (bfalse hc29) ?_
    try dsimp only [HAct.put, List.set_cons_zero, List.set_cons_succ]
    refine q_op (dst := some 114) rfl (fun _ ho => ok_pick_ff ho (.tmp rfl) (bfalse hc29) (.bool _)) ?_
    try dsimp only [HAct.put, List.set_cons_zero, List.set_cons_succ]
    exact J8_snd hD hH h
def J6 (D : Dp) (H : Hd) (k : Nat) (y5 : (Option HA)) (y15 : (Option HA)) (y16 : Sl) (y18 : Sl) (y100 : Bool) (S : HS) : Option ((Bool) × HS) :=
  (if y100 = true then
  J7 D H k y5 y15 (decide ((w64 ((Sl.len y16 : Int) + (Sl.len y18 : Int))) = 0)) S else
  J7 D H k y5 y15 false S)
theorem J6_snd {D : Dp} {H : Hd} {k : Nat} (hD : DSound Try.prog base W0 D) (hH : HSound Try.prog base W0 β0 H)  {y5 : (Option HA)} {y15 : (Option HA)} {y16 : Sl} {y18 : Sl} {y100 : Bool} {S : HS} {p : (Bool) × HS} {g0 g1 g2 g3 g4 g6 g7 g8 g9 g10 g11 g12 g13 g14 g17 g19 g20 g21 g22 g23 g24 g25 g26 g27 g28 g29 g30 g31 g32 g33 g34 g35 g36 g37 g38 g39 g40 g41 g42 g43 g44 g45 g46 g47 g48 g49 g50 g51 g52 g53 g54 g55 g56 g57 g58 g59 g60 g61 g62 g63 g64 g65 g66 g67 g68 g69 g70 g71 g72 g73 g74 g75 g76 g77 g78 g79 g80 g81 g82 g83 g84 g85 g86 g87 g88 g89 g90 g91 g92 g93 g94 g95 g96 g97 g98 g99 g101 g102 g103 g104 g105 g106 g107 g108 g109 g110 g111 g112 g113 g114 g115 g116 g117 g118 g119 g120 g121 g122 g123 g124 g125 g126 g127 g128 g129 g130 g131 g132 g133 g134 g135 g136 g137 g138 g139 g140 g141 g142 g143 g144 g145 g146 g147 g148 : HV} (h : J6 D H k y5 y15 y16 y18 y100 S = some p) : HRun Try.prog base W0 β0 5 none [.inRegion r43 [27, 28, 29, 30, 31, 32, 33, 34, 35, 36, 37, 38, 39, 40, 41, 42, 43, 44, 45, 46, 47, 48, 49, 50, 51, 52, 53, 54, 55, 56, 57, 58, 59, 60, 61, 62, 63, 64, 65, 66, 67, 68, 69, 70, 71, 72, 73, 74, 75], .code c44] ⟨[g0, g1, g2, g3, g4, (.ptr y5), g6, g7, g8, g9, g10, g11, g12, g13, g14, (.ptr y15), (Sl.hv y16), g17, (Sl.hv y18), g19, g20, g21, g22, g23, g24, g25, g26, g27, g28, g29, g30, g31, g32, g33, g34, g35, g36, g37, g38, g39, g40, g41, g42, g43, g44, g45, g46, g47, g48, g49, g50, g51, g52, g53, g54, g55, g56, g57, g58, g59, g60, g61, g62, g63, g64, g65, g66, g67, g68, g69, g70, g71, g72, g73, g74, g75, g76, g77, g78, g79, g80, g81, g82, g83, g84, g85, g86, g87, g88, g89, g90, g91, g92, g93, g94, g95, g96, g97, g98, g99, (.bool y100), g101, g102, g103, g104, g105, g106, g107, g108, g109, g110, g111, g112, g113, g114, g115, g116, g117, g118, g119, g120, g121, g122, g123, g124, g125, g126, g127, g128, g129, g130, g131, g132, g133, g134, g135, g136, g137, g138, g139, g140, g141, g142, g143, g144, g145, g146, g147, g148], []⟩ S (fun v S1 => v = (.bool p.1) ∧ S1 = p.2) := by
  unfold J6 at h
  refine q_op (dst := some 101) rfl (fun _ ho => ok_move ho (.tmp rfl)) ?_
  try dsimp only [HAct.put, List.set_cons_zero, List.set_cons_succ]
  rcases ifc h with ⟨hc28, h⟩ | ⟨hc28, h⟩
  · refine q_op_g (t := 101) (dst := some 102) rfl rfl rfl hc28 (fun _ ho => ok_move ho (.tmp rfl)) ?_
    refine q_op_g (t := 101) (dst := some 103) rfl rfl rfl hc28 (fun _ ho => ok_len_sl (q := Sl.a y16) (n := Sl.len y16) (z := Sl.cap y16) ho rfl tu24 (.tmp rfl)) ?_
    refine q_op_g (t := 101) (dst := some 104) rfl rfl rfl hc28 (fun _ ho => ok_move ho (.tmp rfl)) ?_
    refine q_op_g (t := 101) (dst := some 105) rfl rfl rfl hc28 (fun _ ho => ok_len_sl (q := Sl.a y18) (n := Sl.len y18) (z := Sl.cap y18) ho rfl tu24 (.tmp rfl)) ?_
    try dsimp only [HAct.put, List.set_cons_zero, List.set_cons_succ]
    refine q_op_g (t := 101) (dst := some 106) rfl rfl rfl hc28 (fun _ ho => ok_ibin ho (.tmp rfl) (.tmp rfl) rfl) ?_
    refine q_op_g (t := 101) (dst := some 107) rfl rfl rfl hc28 (fun _ ho => ok_ibin ho (.tmp rfl) (.int _ _) rfl) ?_
    refine q_op (dst := some 108) rfl (fun _ ho => ok_pick_tt ho (.tmp rfl) hc28 (.tmp rfl)) ?_
    try dsimp only [HAct.put, List.set_cons_zero, List.set_cons_succ]
    exact J7_snd hD hH h
  · refine q_skip (dst := some 102) (t := 101) rfl rfl rfl (bfalse hc28) ?_
    refine q_skip (dst := some 103) (t := 101) rfl rfl rfl (bfalse hc28) ?_
    refine q_skip (dst := some 104) (t := 101) rfl rfl rfl (bfalse hc28) ?_
    refine q_skip (dst := some 105) (t := 101) rfl rfl rfl (bfalse hc28) ?_
    try dsimp only [HAct.put, List.set_cons_zero, List.set_cons_succ]
    refine q_skip (dst := some 106) (t := 101) rfl rfl rfl (bfalse hc28) ?_
    refine q_skip (dst := some 107) (t := 101) rfl rfl rfl (bfalse hc28) ?_
    refine q_op (dst := some 108) rfl (fun _ ho => ok_pick_ff ho (.tmp rfl) (bfalse hc28) (.bool _)) ?_
    try dsimp only [HAct.put, List.set_cons_zero, List.set_cons_succ]
    exact J7_snd hD hH h
def J5 (D : Dp) (H : Hd) (k : Nat) (y5 : (Option HA)) (y15 : (Option HA)) (y16 : Sl) (y18 : Sl) (y19 : Bool) (y97 : Bool) (S : HS) : Option ((Bool) × HS) :=
  (if y97 = true then
  J6 D H k y5 y15 y16 y18 y19 S else
  J6 D H k y5 y15 y16 y18 false S)
theorem J5_snd {D : Dp} {H : Hd} {k : Nat} (hD : DSound Try.prog base W0 D) (hH : HSound Try.prog base W0 β0 H)  {y5 : (Option HA)} {y15 : (Option HA)} {y16 : Sl} {y18 : Sl} {y19 : Bool} {y97 : Bool} {S : HS} {p : (Bool) × HS} {g0 g1 g2 g3 g4 g6 g7 g8 g9 g10 g11 g12 g13 g14 g17 g20 g21 g22 g23 g24 g25 g26 g27 g28 g29 g30 g31 g32 g33 g34 g35 g36 g37 g38 g39 g40 g41 g42 g43 g44 g45 g46 g47 g48 g49 g50 g51 g52 g53 g54 g55 g56 g57 g58 g59 g60 g61 g62 g63 g64 g65 g66 g67 g68 g69 g70 g71 g72 g73 g74 g75 g76 g77 g78 g79 g80 g81 g82 g83 g84 g85 g86 g87 g88 g89 g90 g91 g92 g93 g94 g95 g96 g98 g99 g100 g101 g102 g103 g104 g105 g106 g107 g108 g109 g110 g111 g112 g113 g114 g115 g116 g117 g118 g119 g120 g121 g122 g123 g124 g125 g126 g127 g128 g129 g130 g131 g132 g133 g134 g135 g136 g137 g138 g139 g140 g141 g142 g143 g144 g145 g146 g147 g148 : HV} (h : J5 D H k y5 y15 y16 y18 y19 y97 S = some p) : HRun Try.prog base W0 β0 5 none [.inRegion r43 [24, 25, 26, 27, 28, 29, 30, 31, 32, 33, 34, 35, 36, 37, 38, 39, 40, 41, 42, 43, 44, 45, 46, 47, 48, 49, 50, 51, 52, 53, 54, 55, 56, 57, 58, 59, 60, 61, 62, 63, 64, 65, 66, 67, 68, 69, 70, 71, 72, 73, 74, 75], .code c44] ⟨[g0, g1, g2, g3, g4, (.ptr y5), g6, g7, g8, g9, g10, g11, g12, g13, g14, (.ptr y15), (Sl.hv y16), g17, (Sl.hv y18), (.bool y19), g20, g21, g22, g23, g24, g25, g26, g27, g28, g29, g30, g31, g32, g33, g34, g35, g36, g37, g38, g39, g40, g41, g42, g43, g44, g45, g46, g47, g48, g49, g50, g51, g52, g53, g54, g55, g56, g57, g58, g59, g60, g61, g62, g63, g64, g65, g66, g67, g68, g69, g70, g71, g72, g73, g74, g75, g76, g77, g78, g79, g80, g81, g82, g83, g84, g85, g86, g87, g88, g89, g90, g91, g92, g93, g94, g95, g96, (.bool y97), g98, g99, g100, g101, g102, g103, g104, g105, g106, g107, g108, g109, g110, g111, g112, g113, g114, g115, g116, g117, g118, g119, g120, g121, g122, g123, g124, g125, g126, g127, g128, g129, g130, g131, g132, g133, g134, g135, g136, g137, g138, g139, g140, g141, g142, g143, g144, g145, g146, g147, g148], []⟩ S (fun v S1 => v = (.bool p.1) ∧ S1 = p.2) := by
  unfold J5 at h
  refine q_op (dst := some 98) rfl (fun _ ho => ok_move ho (.tmp rfl)) ?_
  rcases ifc h with ⟨hc27, h⟩ | ⟨hc27, h⟩
  · refine q_op_g (t := 98) (dst := some 99) rfl rfl rfl hc27 (fun _ ho => ok_move ho (.tmp rfl)) ?_
    refine q_op (dst := some 100) rfl (fun _ ho => ok_pick_tt ho (.tmp rfl) hc27 (.tmp rfl)) ?_
    try dsimp only [HAct.put, List.set_cons_zero, List.set_cons_succ]
    exact J6_snd hD hH h
  · refine q_skip (dst := some 99) (t := 98) rfl rfl rfl (bfalse hc27) ?_
    refine q_op (dst := some 100) rfl (fun _ ho => ok_pick_ff ho (.tmp rfl) (bfalse hc27) (.bool _)) ?_
    try dsimp only [HAct.put, List.set_cons_zero, List.set_cons_succ]
    exact J6_snd hD hH h
def J4 (D : Dp) (H : Hd) (k : Nat) (y5 : (Option HA)) (y15 : (Option HA)) (y16 : Sl) (y17 : Bool) (y18 : Sl) (y19 : Bool) (y94 : Bool) (S : HS) : Option ((Bool) × HS) :=
  (if y94 = true then
  J5 D H k y5 y15 y16 y18 y19 y17 S else
  J5 D H k y5 y15 y16 y18 y19 false S)
theorem J4_snd {D : Dp} {H : Hd} {k : Nat} (hD : DSound Try.prog base W0 D) (hH : HSound Try.prog base W0 β0 H)  {y5 : (Option HA)} {y15 : (Option HA)} {y16 : Sl} {y17 : Bool} {y18 : Sl} {y19 : Bool} {y94 : Bool} {S : HS} {p : (Bool) × HS} {g0 g1 g2 g3 g4 g6 g7 g8 g9 g10 g11 g12 g13 g14 g20 g21 g22 g23 g24 g25 g26 g27 g28 g29 g30 g31 g32 g33 g34 g35 g36 g37 g38 g39 g40 g41 g42 g43 g44 g45 g46 g47 g48 g49 g50 g51 g52 g53 g54 g55 g56 g57 g58 g59 g60 g61 g62 g63 g64 g65 g66 g67 g68 g69 g70 g71 g72 g73 g74 g75 g76 g77 g78 g79 g80 g81 g82 g83 g84 g85 g86 g87 g88 g89 g90 g91 g92 g93 g95 g96 g97 g98 g99 g100 g101 g102 g103 g104 g105 g106 g107 g108 g109 g110 g111 g112 g113 g114 g115 g116 g117 g118 g119 g120 g121 g122 g123 g124 g125 g126 g127 g128 g129 g130 g131 g132 g133 g134 g135 g136 g137 g138 g139 g140 g141 g142 g143 g144 g145 g146 g147 g148 : HV} (h : J4 D H k y5 y15 y16 y17 y18 y19 y94 S = some p) : HRun Try.prog base W0 β0 5 none [.inRegion r43 [21, 22, 23, 24, 25, 26, 27, 28, 29, 30, 31, 32, 33, 34, 35, 36, 37, 38, 39, 40, 41, 42, 43, 44, 45, 46, 47, 48, 49, 50, 51, 52, 53, 54, 55, 56, 57, 58, 59, 60, 61, 62, 63, 64, 65, 66, 67, 68, 69, 70, 71, 72, 73, 74, 75], .code c44] ⟨[g0, g1, g2, g3, g4, (.ptr y5), g6, g7, g8, g9, g10, g11, g12, g13, g14, (.ptr y15), (Sl.hv y16), (.bool y17), (Sl.hv y18), (.bool y19), g20, g21, g22, g23, g24, g25, g26, g27, g28, g29, g30, g31, g32, g33, g34, g35, g36, g37, g38, g39, g40, g41, g42, g43, g44, g45, g46, g47, g48, g49, g50, g51, g52, g53, g54, g55, g56, g57, g58, g59, g60, g61, g62, g63, g64, g65, g66, g67, g68, g69, g70, g71, g72, g73, g74, g75, g76, g77, g78, g79, g80, g81, g82, g83, g84, g85, g86, g87, g88, g89, g90, g91, g92, g93, (.bool y94), g95, g96, g97, g98, g99, g100, g101, g102, g103, g104, g105, g106, g107, g108, g109, g110, g111, g112, g113, g114, g115, g116, g117, g118, g119, g120, g121, g122, g123, g124, g125, g126, g127, g128, g129, g130, g131, g132, g133, g134, g135, g136, g137, g138, g139, g140, g141, g142, g143, g144, g145, g146, g147, g148], []⟩ S (fun v S1 => v = (.bool p.1) ∧ S1 = p.2) := by
  unfold J4 at h
  refine q_op (dst := some 95) rfl (fun _ ho => ok_move ho (.tmp rfl)) ?_
  rcases ifc h with ⟨hc26, h⟩ | ⟨hc26, h⟩
  · refine q_op_g (t := 95) (dst := some 96) rfl rfl rfl hc26 (fun _ ho => ok_move ho (.tmp rfl)) ?_
    refine q_op (dst := some 97) rfl (fun _ ho => ok_pick_tt ho (.tmp rfl) hc26 (.tmp rfl)) ?_
    try dsimp only [HAct.put, List.set_cons_zero, List.set_cons_succ]
    try dsimp only [HAct.put, List.set_cons_zero, List.set_cons_succ]
    exact J5_snd hD hH h
  · refine q_skip (dst := some 96) (t := 95) rfl rfl rfl (bfalse hc26) ?_
    refine q_op (dst := some 97) rfl (fun _ ho => ok_pick_ff ho (.tmp rfl) (bfalse hc26) (.bool _)) ?_
    try dsimp only [HAct.put, List.set_cons_zero, List.set_cons_succ]
    try dsimp only [HAct.put, List.set_cons_zero, List.set_cons_succ]
    exact J5_snd hD hH h
def J3 (D : Dp) (H : Hd) (k : Nat) (y5 : (Option HA)) (y6 : (Option HA)) (y15 : (Option HA)) (y16 : Sl) (y17 : Bool) (y18 : Sl) (y19 : Bool) (y89 : Bool) (S : HS) : Option ((Bool) × HS) :=
  (if y89 = true then
  (Option.bind (set_Set_int_Len.f y6 S) fun p25 =>
  J4 D H k y5 y15 y16 y17 y18 y19 (decide (p25.1 = 0)) p25.2) else
  J4 D H k y5 y15 y16 y17 y18 y19 false S)
theorem J3_snd {D : Dp} {H : Hd} {k : Nat} (hD : DSound Try.prog base W0 D) (hH : HSound Try.prog base W0 β0 H)  {y5 : (Option HA)} {y6 : (Option HA)} {y15 : (Option HA)} {y16 : Sl} {y17 : Bool} {y18 : Sl} {y19 : Bool} {y89 : Bool} {S : HS} {p : (Bool) × HS} {g0 g1 g2 g3 g4 g7 g8 g9 g10 g11 g12 g13 g14 g20 g21 g22 g23 g24 g25 g26 g27 g28 g29 g30 g31 g32 g33 g34 g35 g36 g37 g38 g39 g40 g41 g42 g43 g44 g45 g46 g47 g48 g49 g50 g51 g52 g53 g54 g55 g56 g57 g58 g59 g60 g61 g62 g63 g64 g65 g66 g67 g68 g69 g70 g71 g72 g73 g74 g75 g76 g77 g78 g79 g80 g81 g82 g83 g84 g85 g86 g87 g88 g90 g91 g92 g93 g94 g95 g96 g97 g98 g99 g100 g101 g102 g103 g104 g105 g106 g107 g108 g109 g110 g111 g112 g113 g114 g115 g116 g117 g118 g119 g120 g121 g122 g123 g124 g125 g126 g127 g128 g129 g130 g131 g132 g133 g134 g135 g136 g137 g138 g139 g140 g141 g142 g143 g144 g145 g146 g147 g148 : HV} (h : J3 D H k y5 y6 y15 y16 y17 y18 y19 y89 S = some p) : HRun Try.prog base W0 β0 5 none [.inRegion r43 [16, 17, 18, 19, 20, 21, 22, 23, 24, 25, 26, 27, 28, 29, 30, 31, 32, 33, 34, 35, 36, 37, 38, 39, 40, 41, 42, 43, 44, 45, 46, 47, 48, 49, 50, 51, 52, 53, 54, 55, 56, 57, 58, 59, 60, 61, 62, 63, 64, 65, 66, 67, 68, 69, 70, 71, 72, 73, 74, 75], .code c44] ⟨[g0, g1, g2, g3, g4, (.ptr y5), (.ptr y6), g7, g8, g9, g10, g11, g12, g13, g14, (.ptr y15), (Sl.hv y16), (.bool y17), (Sl.hv y18), (.bool y19), g20, g21, g22, g23, g24, g25, g26, g27, g28, g29, g30, g31, g32, g33, g34, g35, g36, g37, g38, g39, g40, g41, g42, g43, g44, g45, g46, g47, g48, g49, g50, g51, g52, g53, g54, g55, g56, g57, g58, g59, g60, g61, g62, g63, g64, g65, g66, g67, g68, g69, g70, g71, g72, g73, g74, g75, g76, g77, g78, g79, g80, g81, g82, g83, g84, g85, g86, g87, g88, (.bool y89), g90, g91, g92, g93, g94, g95, g96, g97, g98, g99, g100, g101, g102, g103, g104, g105, g106, g107, g108, g109, g110, g111, g112, g113, g114, g115, g116, g117, g118, g119, g120, g121, g122, g123, g124, g125, g126, g127, g128, g129, g130, g131, g132, g133, g134, g135, g136, g137, g138, g139, g140, g141, g142, g143, g144, g145, g146, g147, g148], []⟩ S (fun v S1 => v = (.bool p.1) ∧ S1 = p.2) := by
  unfold J3 at h
  refine q_op (dst := some 90) rfl (fun _ ho => ok_move ho (.tmp rfl)) ?_
  rcases ifc h with ⟨hc24, h⟩ | ⟨hc24, h⟩
  · refine q_op_g (t := 90) (dst := some 91) rfl rfl rfl hc24 (fun _ ho => ok_move ho (.tmp rfl)) ?_
    obtain ⟨p25, hp25, h⟩ := bindo h
    refine q_call_g (t := 90) (dst := some 92) rfl rfl rfl hc24 (.func _) (.cons (.tmp rfl) Evs.nil) (HInv.static set_Set_int_Len.at_ set_Set_int_Len.body (set_Set_int_Len.snd  hp25)) ?_
    rintro _ _ ⟨rfl, rfl⟩
    refine q_op_g (t := 90) (dst := some 93) rfl rfl rfl hc24 (fun _ ho => ok_ibin ho (.tmp rfl) (.int _ _) rfl) ?_
    try dsimp only [HAct.put, List.set_cons_zero, List.set_cons_succ]
    refine q_op (dst := some 94) rfl (fun _ ho => ok_pick_tt ho (.tmp rfl) hc24 (.tmp rfl)) ?_
    try dsimp only [HAct.put, List.set_cons_zero, List.set_cons_succ]
    exact J4_snd hD hH h
  · refine q_skip (dst := some 91) (t := 90) rfl rfl rfl (bfalse hc24) ?_
    refine q_skip (dst := some 92) (t := 90) rfl rfl rfl (bfalse hc24) ?_
    refine q_skip (dst := some 93) (t := 90) rfl rfl rfl (bfalse hc24) ?_
    try dsimp only [HAct.put, List.set_cons_zero, List.set_cons_succ]
    refine q_op (dst := some 94) rfl (fun _ ho => ok_pick_ff ho (.tmp rfl) (bfalse hc24) (.bool _)) ?_
    try dsimp only [HAct.put, List.set_cons_zero, List.set_cons_succ]
    exact J4_snd hD hH h
def J2 (D : Dp) (H : Hd) (k : Nat) (y5 : (Option HA)) (y6 : (Option HA)) (y10 : Int) (y13 : Sl) (y15 : (Option HA)) (y16 : Sl) (y17 : Bool) (y18 : Sl) (y19 : Bool) (y83 : Bool) (S : HS) : Option ((Bool) × HS) :=
  (if y83 = true then
  J3 D H k y5 y6 y15 y16 y17 y18 y19 (decide ((Sl.len y13 : Int) = y10)) S else
  J3 D H k y5 y6 y15 y16 y17 y18 y19 false S)
theorem J2_snd {D : Dp} {H : Hd} {k : Nat} (hD : DSound Try.prog base W0 D) (hH : HSound Try.prog base W0 β0 H)  {y5 : (Option HA)} {y6 : (Option HA)} {y10 : Int} {y13 : Sl} {y15 : (Option HA)} {y16 : Sl} {y17 : Bool} {y18 : Sl} {y19 : Bool} {y83 : Bool} {S : HS} {p : (Bool) × HS} {g0 g1 g2 g3 g4 g7 g8 g9 g11 g12 g14 g20 g21 g22 g23 g24 g25 g26 g27 g28 g29 g30 g31 g32 g33 g34 g35 g36 g37 g38 g39 g40 g41 g42 g43 g44 g45 g46 g47 g48 g49 g50 g51 g52 g53 g54 g55 g56 g57 g58 g59 g60 g61 g62 g63 g64 g65 g66 g67 g68 g69 g70 g71 g72 g73 g74 g75 g76 g77 g78 g79 g80 g81 g82 g84 g85 g86 g87 g88 g89 g90 g91 g92 g93 g94 g95 g96 g97 g98 g99 g100 g101 g102 g103 g104 g105 g106 g107 g108 g109 g110 g111 g112 g113 g114 g115 g116 g117 g118 g119 g120 g121 g122 g123 g124 g125 g126 g127 g128 g129 g130 g131 g132 g133 g134 g135 g136 g137 g138 g139 g140 g141 g142 g143 g144 g145 g146 g147 g148 : HV} (h : J2 D H k y5 y6 y10 y13 y15 y16 y17 y18 y19 y83 S = some p) : HRun Try.prog base W0 β0 5 none [.inRegion r43 [10, 11, 12, 13, 14, 15, 16, 17, 18, 19, 20, 21, 22, 23, 24, 25, 26, 27, 28, 29, 30, 31, 32, 33, 34, 35, 36, 37, 38, 39, 40, 41, 42, 43, 44, 45, 46, 47, 48, 49, 50, 51, 52, 53, 54, 55, 56, 57, 58, 59, 60, 61, 62, 63, 64, 65, 66, 67, 68, 69, 70, 71, 72, 73, 74, 75], .code c44] ⟨[g0, g1, g2, g3, g4, (.ptr y5), (.ptr y6), g7, g8, g9, (.int .i64 y10), g11, g12, (Sl.hv y13), g14, (.ptr y15), (Sl.hv y16), (.bool y17), (Sl.hv y18), (.bool y19), g20, g21, g22, g23, g24, g25, g26, g27, g28, g29, g30, g31, g32, g33, g34, g35, g36, g37, g38, g39, g40, g41, g42, g43, g44, g45, g46, g47, g48, g49, g50, g51, g52, g53, g54, g55, g56, g57, g58, g59, g60, g61, g62, g63, g64, g65, g66, g67, g68, g69, g70, g71, g72, g73, g74, g75, g76, g77, g78, g79, g80, g81, g82, (.bool y83), g84, g85, g86, g87, g88, g89, g90, g91, g92, g93, g94, g95, g96, g97, g98, g99, g100, g101, g102, g103, g104, g105, g106, g107, g108, g109, g110, g111, g112, g113, g114, g115, g116, g117, g118, g119, g120, g121, g122, g123, g124, g125, g126, g127, g128, g129, g130, g131, g132, g133, g134, g135, g136, g137, g138, g139, g140, g141, g142, g143, g144, g145, g146, g147, g148], []⟩ S (fun v S1 => v = (.bool p.1) ∧ S1 = p.2) := by
  unfold J2 at h
  refine q_op (dst := some 84) rfl (fun _ ho => ok_move ho (.tmp rfl)) ?_
  rcases ifc h with ⟨hc23, h⟩ | ⟨hc23, h⟩
  · refine q_op_g (t := 84) (dst := some 85) rfl rfl rfl hc23 (fun _ ho => ok_move ho (.tmp rfl)) ?_
    try dsimp only [HAct.put, List.set_cons_zero, List.set_cons_succ]
    refine q_op_g (t := 84) (dst := some 86) rfl rfl rfl hc23 (fun _ ho => ok_len_sl (q := Sl.a y13) (n := Sl.len y13) (z := Sl.cap y13) ho rfl tu24 (.tmp rfl)) ?_
    refine q_op_g (t := 84) (dst := some 87) rfl rfl rfl hc23 (fun _ ho => ok_move ho (.tmp rfl)) ?_
    refine q_op_g (t := 84) (dst := some 88) rfl rfl rfl hc23 (fun _ ho => ok_ibin ho (.tmp rfl) (.tmp rfl) rfl) ?_
    refine q_op (dst := some 89) rfl (fun _ ho => ok_pick_tt ho (.tmp rfl) hc23 (.tmp rfl)) ?_
    try dsimp only [HAct.put, List.set_cons_zero, List.set_cons_succ]
    try dsimp only [HAct.put, List.set_cons_zero, List.set_cons_succ]
    exact J3_snd hD hH h
  · refine q_skip (dst := some 85) (t := 84) rfl rfl rfl (bfalse hc23) ?_
    try dsimp only [HAct.put, List.set_cons_zero, List.set_cons_succ]
    refine q_skip (dst := some 86) (t := 84) rfl rfl rfl (bfalse hc23) ?_
    refine q_skip (dst := some 87) (t := 84) rfl rfl rfl (bfalse hc23) ?_
    refine q_skip (dst := some 88) (t := 84) rfl rfl rfl (bfalse hc23) ?_
    refine q_op (dst := some 89) rfl (fun _ ho => ok_pick_ff ho (.tmp rfl) (bfalse hc23) (.bool _)) ?_
    try dsimp only [HAct.put, List.set_cons_zero, List.set_cons_succ]
    try dsimp only [HAct.put, List.set_cons_zero, List.set_cons_succ]
    exact J3_snd hD hH h
def J1 (D : Dp) (H : Hd) (k : Nat) (y5 : (Option HA)) (y6 : (Option HA)) (y9 : Int) (y10 : Int) (y11 : Sl) (y13 : Sl) (y15 : (Option HA)) (y16 : Sl) (y17 : Bool) (y18 : Sl) (y19 : Bool) (y77 : Bool) (S : HS) : Option ((Bool) × HS) :=
  (if y77 = true then
  J2 D H k y5 y6 y10 y13 y15 y16 y17 y18 y19 (decide ((Sl.len y11 : Int) = y9)) S else
  J2 D H k y5 y6 y10 y13 y15 y16 y17 y18 y19 false S)
theorem J1_snd {D : Dp} {H : Hd} {k : Nat} (hD : DSound Try.prog base W0 D) (hH : HSound Try.prog base W0 β0 H)  {y5 : (Option HA)} {y6 : (Option HA)} {y9 : Int} {y10 : Int} {y11 : Sl} {y13 : Sl} {y15 : (Option HA)} {y16 : Sl} {y17 : Bool} {y18 : Sl} {y19 : Bool} {y77 : Bool} {S : HS} {p : (Bool) × HS} {g0 g1 g2 g3 g4 g7 g8 g12 g14 g20 g21 g22 g23 g24 g25 g26 g27 g28 g29 g30 g31 g32 g33 g34 g35 g36 g37 g38 g39 g40 g41 g42 g43 g44 g45 g46 g47 g48 g49 g50 g51 g52 g53 g54 g55 g56 g57 g58 g59 g60 g61 g62 g63 g64 g65 g66 g67 g68 g69 g70 g71 g72 g73 g74 g75 g76 g78 g79 g80 g81 g82 g83 g84 g85 g86 g87 g88 g89 g90 g91 g92 g93 g94 g95 g96 g97 g98 g99 g100 g101 g102 g103 g104 g105 g106 g107 g108 g109 g110 g111 g112 g113 g114 g115 g116 g117 g118 g119 g120 g121 g122 g123 g124 g125 g126 g127 g128 g129 g130 g131 g132 g133 g134 g135 g136 g137 g138 g139 g140 g141 g142 g143 g144 g145 g146 g147 g148 : HV} (h : J1 D H k y5 y6 y9 y10 y11 y13 y15 y16 y17 y18 y19 y77 S = some p) : HRun Try.prog base W0 β0 5 none [.inRegion r43 [4, 5, 6, 7, 8, 9, 10, 11, 12, 13, 14, 15, 16, 17, 18, 19, 20, 21, 22, 23, 24, 25, 26, 27, 28, 29, 30, 31, 32, 33, 34, 35, 36, 37, 38, 39, 40, 41, 42, 43, 44, 45, 46, 47, 48, 49, 50, 51, 52, 53, 54, 55, 56, 57, 58, 59, 60, 61, 62, 63, 64, 65, 66, 67, 68, 69, 70, 71, 72, 73, 74, 75], .code c44] ⟨[g0, g1, g2, g3, g4, (.ptr y5), (.ptr y6), g7, g8, (.int .i64 y9), (.int .i64 y10), (Sl.hv y11), g12, (Sl.hv y13), g14, (.ptr y15), (Sl.hv y16), (.bool y17), (Sl.hv y18), (.bool y19), g20, g21, g22, g23, g24, g25, g26, g27, g28, g29, g30, g31, g32, g33, g34, g35, g36, g37, g38, g39, g40, g41, g42, g43, g44, g45, g46, g47, g48, g49, g50, g51, g52, g53, g54, g55, g56, g57, g58, g59, g60, g61, g62, g63, g64, g65, g66, g67, g68, g69, g70, g71, g72, g73, g74, g75, g76, (.bool y77), g78, g79, g80, g81, g82, g83, g84, g85, g86, g87, g88, g89, g90, g91, g92, g93, g94, g95, g96, g97, g98, g99, g100, g101, g102, g103, g104, g105, g106, g107, g108, g109, g110, g111, g112, g113, g114, g115, g116, g117, g118, g119, g120, g121, g122, g123, g124, g125, g126, g127, g128, g129, g130, g131, g132, g133, g134, g135, g136, g137, g138, g139, g140, g141, g142, g143, g144, g145, g146, g147, g148], []⟩ S (fun v S1 => v = (.bool p.1) ∧ S1 = p.2) := by
  unfold J1 at h
  refine q_op (dst := some 78) rfl (fun _ ho => ok_move ho (.tmp rfl)) ?_
  rcases ifc h with ⟨hc22, h⟩ | ⟨hc22, h⟩
  · refine q_op_g (t := 78) (dst := some 79) rfl rfl rfl hc22 (fun _ ho => ok_move ho (.tmp rfl)) ?_
    refine q_op_g (t := 78) (dst := some 80) rfl rfl rfl hc22 (fun _ ho => ok_len_sl (q := Sl.a y11) (n := Sl.len y11) (z := Sl.cap y11) ho rfl tu24 (.tmp rfl)) ?_
    refine q_op_g (t := 78) (dst := some 81) rfl rfl rfl hc22 (fun _ ho => ok_move ho (.tmp rfl)) ?_
    try dsimp only [HAct.put, List.set_cons_zero, List.set_cons_succ]
    refine q_op_g (t := 78) (dst := some 82) rfl rfl rfl hc22 (fun _ ho => ok_ibin ho (.tmp rfl) (.tmp rfl) rfl) ?_
    refine q_op (dst := some 83) rfl (fun _ ho => ok_pick_tt ho (.tmp rfl) hc22 (.tmp rfl)) ?_
    try dsimp only [HAct.put, List.set_cons_zero, List.set_cons_succ]
    exact J2_snd hD hH h
  · refine q_skip (dst := some 79) (t := 78) rfl rfl rfl (bfalse hc22) ?_
    refine q_skip (dst := some 80) (t := 78) rfl rfl rfl (bfalse hc22) ?_
    refine q_skip (dst := some 81) (t := 78) rfl rfl rfl (bfalse hc22) ?_
    try dsimp only [HAct.put, List.set_cons_zero, List.set_cons_succ]
    refine q_skip (dst := some 82) (t := 78) rfl rfl rfl (bfalse hc22) ?_
    refine q_op (dst := some 83) rfl (fun _ ho => ok_pick_ff ho (.tmp rfl) (bfalse hc22) (.bool _)) ?_
    try dsimp only [HAct.put, List.set_cons_zero, List.set_cons_succ]
    exact J2_snd hD hH h
def J0 (D : Dp) (H : Hd) (k : Nat) (y0 : Sl) (y1 : Sl) (y29 : Bool) (S : HS) : Option ((Bool) × HS) :=
  (if y29 = true then
  some (true, S) else
  (Option.bind (set_Of_int.f k y0 S) fun p5 =>
  (Option.bind (set_Of_int.f k y1 p5.2) fun p6 =>
  (Option.bind (set_Set_int_All.f p5.1 p6.2) fun p7 =>
  (letv (HS.lit p7.2 [[(.ptr p5.1)], [(.ptr none)], [(.ptr p6.1)]] 1) fun p8 =>
  (Option.bind (set_Union_int.f k (p8.1) (p8.2)) fun p9 =>
  (Option.bind (set_Set_int_Len.f p5.1 p9.2) fun p10 =>
  (Option.bind (set_Set_int_Add.f k p5.1 y1 p10.2) fun p11 =>
  (Option.bind (set_Set_int_Len.f p5.1 p11.2) fun p12 =>
  (Option.bind (set_Set_int_Remove.f k p5.1 y0 p12.2) fun p13 =>
  (Option.bind (set_Set_int_Remove.f k p6.1 y1 p13.2) fun p14 =>
  (Option.bind (rollcalllaw10_told.f D H p7.1 99 p14.2) fun p15 =>
  (Option.bind (rollcalllaw10_told.f D H p9.1 99 p15.2) fun p16 =>
  (Option.bind (set_Set_int_All.f none p16.2) fun p17 =>
  (Option.bind (rollcalllaw10_told.f D H p17.1 0 p17.2) fun p18 =>
  (Option.bind (set_Without_int.f HV.nilFn 1 p18.2) fun p19 =>
  (Option.bind (rollcalllaw10_told.f D H p19.1 0 p19.2) fun p20 =>
  (if p15.1.2 = true then
  J1 D H k p5.1 p6.1 p10.1 p12.1 p15.1.1 p16.1.1 none p18.1.1 p18.1.2 p20.1.1 p20.1.2 p16.1.2 p20.2 else
  J1 D H k p5.1 p6.1 p10.1 p12.1 p15.1.1 p16.1.1 none p18.1.1 p18.1.2 p20.1.1 p20.1.2 false p20.2))))))))))))))))))
theorem J0_snd {D : Dp} {H : Hd} {k : Nat} (hD : DSound Try.prog base W0 D) (hH : HSound Try.prog base W0 β0 H)  {y0 : Sl} {y1 : Sl} {y29 : Bool} {S : HS} {p : (Bool) × HS} {g2 g3 g4 g5 g6 g7 g8 g9 g10 g11 g12 g13 g14 g15 g16 g17 g18 g19 g20 g21 g22 g23 g24 g25 g26 g27 g28 g30 g31 g32 g33 g34 g35 g36 g37 g38 g39 g40 g41 g42 g43 g44 g45 g46 g47 g48 g49 g50 g51 g52 g53 g54 g55 g56 g57 g58 g59 g60 g61 g62 g63 g64 g65 g66 g67 g68 g69 g70 g71 g72 g73 g74 g75 g76 g77 g78 g79 g80 g81 g82 g83 g84 g85 g86 g87 g88 g89 g90 g91 g92 g93 g94 g95 g96 g97 g98 g99 g100 g101 g102 g103 g104 g105 g106 g107 g108 g109 g110 g111 g112 g113 g114 g115 g116 g117 g118 g119 g120 g121 g122 g123 g124 g125 g126 g127 g128 g129 g130 g131 g132 g133 g134 g135 g136 g137 g138 g139 g140 g141 g142 g143 g144 g145 g146 g147 g148 : HV} (h : J0 D H k y0 y1 y29 S = some p) : HRun Try.prog base W0 β0 5 none [.code c13, .code c18] ⟨[(Sl.hv y0), (Sl.hv y1), g2, g3, g4, g5, g6, g7, g8, g9, g10, g11, g12, g13, g14, g15, g16, g17, g18, g19, g20, g21, g22, g23, g24, g25, g26, g27, g28, (.bool y29), g30, g31, g32, g33, g34, g35, g36, g37, g38, g39, g40, g41, g42, g43, g44, g45, g46, g47, g48, g49, g50, g51, g52, g53, g54, g55, g56, g57, g58, g59, g60, g61, g62, g63, g64, g65, g66, g67, g68, g69, g70, g71, g72, g73, g74, g75, g76, g77, g78, g79, g80, g81, g82, g83, g84, g85, g86, g87, g88, g89, g90, g91, g92, g93, g94, g95, g96, g97, g98, g99, g100, g101, g102, g103, g104, g105, g106, g107, g108, g109, g110, g111, g112, g113, g114, g115, g116, g117, g118, g119, g120, g121, g122, g123, g124, g125, g126, g127, g128, g129, g130, g131, g132, g133, g134, g135, g136, g137, g138, g139, g140, g141, g142, g143, g144, g145, g146, g147, g148], []⟩ S (fun v S1 => v = (.bool p.1) ∧ S1 = p.2) := by
  unfold J0 at h
  rcases ifc h with ⟨hc4, h⟩ | ⟨hc4, h⟩
  · refine q_cond_t e13 (.tmp rfl) hc4 ?_
    refine q_seq e14 ?_
    refine q_region e15 rfl ?_
    refine q_op (dst := some 4) rfl (fun _ ho => ok_assign ho (.bool _)) ?_
    refine hr_region_end ?_
    try dsimp only [HAct.put, List.set_cons_zero, List.set_cons_succ]
    cases h
    exact q_ret e16 at_.at_ rfl (res1 rfl rfl) ⟨rfl, rfl⟩
  · refine q_cond_f e13 (.tmp rfl) (bfalse hc4) ?_
    refine q_skipc e17 ?_
    refine q_seq e18 ?_
    refine q_region e19 rfl ?_
    refine q_op (dst := some 30) rfl (fun _ ho => ok_move ho (.tmp rfl)) ?_
    obtain ⟨p5, hp5, h⟩ := bindo h
    refine q_call (dst := some 31) rfl (.func _) (.cons (.tmp rfl) Evs.nil) (HInv.static set_Of_int.at_ set_Of_int.body (set_Of_int.snd  hp5)) ?_
    rintro _ _ ⟨rfl, rfl⟩
    refine q_op (dst := some 32) rfl (fun _ ho => ok_move ho (.tmp rfl)) ?_
    obtain ⟨p6, hp6, h⟩ := bindo h
    refine q_call (dst := some 33) rfl (.func _) (.cons (.tmp rfl) Evs.nil) (HInv.static set_Of_int.at_ set_Of_int.body (set_Of_int.snd  hp6)) ?_
    rintro _ _ ⟨rfl, rfl⟩
    try dsimp only [HAct.put, List.set_cons_zero, List.set_cons_succ]
    refine q_op (dst := some 5) rfl (fun _ ho => ok_assign ho (.tmp rfl)) ?_
    refine q_op (dst := some 6) rfl (fun _ ho => ok_assign ho (.tmp rfl)) ?_
    refine hr_region_end ?_
    try dsimp only [HAct.put, List.set_cons_zero, List.set_cons_succ]
    refine q_seq e20 ?_
    refine q_region e21 rfl ?_
    refine q_op (dst := some 34) rfl (fun _ ho => ok_move ho (.tmp rfl)) ?_
    obtain ⟨p7, hp7, h⟩ := bindo h
    refine q_call (dst := some 35) rfl (.func _) (.cons (.tmp rfl) Evs.nil) (HInv.static set_Set_int_All.at_ set_Set_int_All.body (set_Set_int_All.snd  hp7)) ?_
    rintro _ _ ⟨rfl, rfl⟩
    refine q_op (dst := some 36) rfl (fun _ ho => ok_move ho (.tmp rfl)) ?_
    refine q_op (dst := some 37) rfl (fun _ ho => ok_move ho (.tmp rfl)) ?_
    try dsimp only [HAct.put, List.set_cons_zero, List.set_cons_succ]
    obtain ⟨p8, hp8, h⟩ := leto h
    refine q_op (dst := some 38) rfl (fun _ ho => ok_buildSlice_s (xs := [(.tmp 36), (.const (.pointer none)), (.tmp 37)]) el25 ho rfl rfl (by decide) (.cons (.tmp rfl) (.cons (.const fun _ => .ptrNil) (.cons (.tmp rfl) Evs.nil))) rfl rfl hp8) ?_
    obtain ⟨p9, hp9, h⟩ := bindo h
    refine q_call (dst := some 39) rfl (.func _) (.cons (.tmp rfl) Evs.nil) (HInv.static set_Union_int.at_ set_Union_int.body (set_Union_int.snd  hp9)) ?_
    rintro _ _ ⟨rfl, rfl⟩
    refine q_op (dst := some 7) rfl (fun _ ho => ok_assign ho (.tmp rfl)) ?_
    refine q_op (dst := some 8) rfl (fun _ ho => ok_assign ho (.tmp rfl)) ?_
    refine hr_region_end ?_
    try dsimp only [HAct.put, List.set_cons_zero, List.set_cons_succ]
    refine q_seq e22 ?_
    refine q_region e23 rfl ?_
    refine q_op (dst := some 40) rfl (fun _ ho => ok_move ho (.tmp rfl)) ?_
    obtain ⟨p10, hp10, h⟩ := bindo h
    refine q_call (dst := some 41) rfl (.func _) (.cons (.tmp rfl) Evs.nil) (HInv.static set_Set_int_Len.at_ set_Set_int_Len.body (set_Set_int_Len.snd  hp10)) ?_
    rintro _ _ ⟨rfl, rfl⟩
    refine q_op (dst := some 9) rfl (fun _ ho => ok_assign ho (.tmp rfl)) ?_
    refine hr_region_end ?_
    try dsimp only [HAct.put, List.set_cons_zero, List.set_cons_succ]
    refine q_seq e24 ?_
    refine q_region e25 rfl ?_
    refine q_op (dst := some 42) rfl (fun _ ho => ok_move ho (.tmp rfl)) ?_
    refine q_op (dst := some 43) rfl (fun _ ho => ok_move ho (.tmp rfl)) ?_
    obtain ⟨p11, hp11, h⟩ := bindo h
    refine q_call (dst := some 44) rfl (.func _) (.cons (.tmp rfl) (.cons (.tmp rfl) Evs.nil)) (HInv.static set_Set_int_Add.at_ set_Set_int_Add.body (set_Set_int_Add.snd  hp11)) ?_
    rintro _ _ ⟨rfl, rfl⟩
    refine hr_region_end ?_
    try dsimp only [HAct.put, List.set_cons_zero, List.set_cons_succ]
    refine q_seq e26 ?_
    refine q_region e27 rfl ?_
    refine q_op (dst := some 45) rfl (fun _ ho => ok_move ho (.tmp rfl)) ?_
    obtain ⟨p12, hp12, h⟩ := bindo h
    refine q_call (dst := some 46) rfl (.func _) (.cons (.tmp rfl) Evs.nil) (HInv.static set_Set_int_Len.at_ set_Set_int_Len.body (set_Set_int_Len.snd  hp12)) ?_
    rintro _ _ ⟨rfl, rfl⟩
    refine q_op (dst := some 10) rfl (fun _ ho => ok_assign ho (.tmp rfl)) ?_
    refine hr_region_end ?_
    try dsimp only [HAct.put, List.set_cons_zero, List.set_cons_succ]
    refine q_seq e28 ?_
    refine q_region e29 rfl ?_
    refine q_op (dst := some 47) rfl (fun _ ho => ok_move ho (.tmp rfl)) ?_
    refine q_op (dst := some 48) rfl (fun _ ho => ok_move ho (.tmp rfl)) ?_
    obtain ⟨p13, hp13, h⟩ := bindo h
    refine q_call (dst := some 49) rfl (.func _) (.cons (.tmp rfl) (.cons (.tmp rfl) Evs.nil)) (HInv.static set_Set_int_Remove.at_ set_Set_int_Remove.body (set_Set_int_Remove.snd  hp13)) ?_
    rintro _ _ ⟨rfl, rfl⟩
    refine hr_region_end ?_
    try dsimp only [HAct.put, List.set_cons_zero, List.set_cons_succ]
    refine q_seq e30 ?_
    refine q_region e31 rfl ?_
    refine q_op (dst := some 50) rfl (fun _ ho => ok_move ho (.tmp rfl)) ?_
    refine q_op (dst := some 51) rfl (fun _ ho => ok_move ho (.tmp rfl)) ?_
    obtain ⟨p14, hp14, h⟩ := bindo h
    refine q_call (dst := some 52) rfl (.func _) (.cons (.tmp rfl) (.cons (.tmp rfl) Evs.nil)) (HInv.static set_Set_int_Remove.at_ set_Set_int_Remove.body (set_Set_int_Remove.snd  hp14)) ?_
    rintro _ _ ⟨rfl, rfl⟩
    refine hr_region_end ?_
    try dsimp only [HAct.put, List.set_cons_zero, List.set_cons_succ]
    refine q_seq e32 ?_
    refine q_region e33 rfl ?_
    refine q_op (dst := some 54) rfl (fun _ ho => ok_move ho (.tmp rfl)) ?_
    obtain ⟨p15, hp15, h⟩ := bindo h
    refine q_call (dst := some 55) rfl (.func _) (.cons (.tmp rfl) (.cons (.int _ _) Evs.nil)) (HInv.static rollcalllaw10_told.at_ rollcalllaw10_told.body (rollcalllaw10_told.snd hD hH hp15)) ?_
    rintro _ _ ⟨rfl, rfl⟩
    refine q_op (dst := some 53) rfl (fun _ ho => ok_move ho (.tmp rfl)) ?_
    refine q_op (dst := some 56) rfl (fun _ ho => ok_extract ho (.tmp rfl) rfl) ?_
    try dsimp only [HAct.put, List.set_cons_zero, List.set_cons_succ]
    refine q_op (dst := some 57) rfl (fun _ ho => ok_extract ho (.tmp rfl) rfl) ?_
    refine q_op (dst := some 11) rfl (fun _ ho => ok_assign ho (.tmp rfl)) ?_
    refine q_op (dst := some 12) rfl (fun _ ho => ok_assign ho (.tmp rfl)) ?_
    refine hr_region_end ?_
    try dsimp only [HAct.put, List.set_cons_zero, List.set_cons_succ]
    refine q_seq e34 ?_
    refine q_region e35 rfl ?_
    refine q_op (dst := some 59) rfl (fun _ ho => ok_move ho (.tmp rfl)) ?_
    obtain ⟨p16, hp16, h⟩ := bindo h
    refine q_call (dst := some 60) rfl (.func _) (.cons (.tmp rfl) (.cons (.int _ _) Evs.nil)) (HInv.static rollcalllaw10_told.at_ rollcalllaw10_told.body (rollcalllaw10_told.snd hD hH hp16)) ?_
    rintro _ _ ⟨rfl, rfl⟩
    refine q_op (dst := some 58) rfl (fun _ ho => ok_move ho (.tmp rfl)) ?_
    refine q_op (dst := some 61) rfl (fun _ ho => ok_extract ho (.tmp rfl) rfl) ?_
    try dsimp only [HAct.put, List.set_cons_zero, List.set_cons_succ]
    refine q_op (dst := some 62) rfl (fun _ ho => ok_extract ho (.tmp rfl) rfl) ?_
    refine q_op (dst := some 13) rfl (fun _ ho => ok_assign ho (.tmp rfl)) ?_
    refine q_op (dst := some 14) rfl (fun _ ho => ok_assign ho (.tmp rfl)) ?_
    refine hr_region_end ?_
    try dsimp only [HAct.put, List.set_cons_zero, List.set_cons_succ]
    refine q_seq e36 ?_
    refine q_region e37 rfl ?_
    refine q_op (dst := some 15) rfl (fun _ ho => ok_assign ho (.const fun _ => .ptrNil)) ?_
    refine hr_region_end ?_
    try dsimp only [HAct.put, List.set_cons_zero, List.set_cons_succ]
    refine q_seq e38 ?_
    refine q_region e39 rfl ?_
    refine q_op (dst := some 64) rfl (fun _ ho => ok_move ho (.tmp rfl)) ?_
    obtain ⟨p17, hp17, h⟩ := bindo h
    refine q_call (dst := some 65) rfl (.func _) (.cons (.tmp rfl) Evs.nil) (HInv.static set_Set_int_All.at_ set_Set_int_All.body (set_Set_int_All.snd  hp17)) ?_
    rintro _ _ ⟨rfl, rfl⟩
    obtain ⟨p18, hp18, h⟩ := bindo h
    refine q_call (dst := some 66) rfl (.func _) (.cons (.tmp rfl) (.cons (.int _ _) Evs.nil)) (HInv.static rollcalllaw10_told.at_ rollcalllaw10_told.body (rollcalllaw10_told.snd hD hH hp18)) ?_
    rintro _ _ ⟨rfl, rfl⟩
    refine q_op (dst := some 63) rfl (fun _ ho => ok_move ho (.tmp rfl)) ?_
    try dsimp only [HAct.put, List.set_cons_zero, List.set_cons_succ]
    refine q_op (dst := some 67) rfl (fun _ ho => ok_extract ho (.tmp rfl) rfl) ?_
    refine q_op (dst := some 68) rfl (fun _ ho => ok_extract ho (.tmp rfl) rfl) ?_
    refine q_op (dst := some 16) rfl (fun _ ho => ok_assign ho (.tmp rfl)) ?_
    refine q_op (dst := some 17) rfl (fun _ ho => ok_assign ho (.tmp rfl)) ?_
    refine hr_region_end ?_
    try dsimp only [HAct.put, List.set_cons_zero, List.set_cons_succ]
    refine q_seq e40 ?_
    refine q_region e41 rfl ?_
    obtain ⟨p19, hp19, h⟩ := bindo h
    refine q_call (dst := some 70) rfl (.func _) (.cons (.const fun _ => .nilFn) (.cons (.int _ _) Evs.nil)) (HInv.static set_Without_int.at_ set_Without_int.body (set_Without_int.snd  hp19)) ?_
    rintro _ _ ⟨rfl, rfl⟩
    obtain ⟨p20, hp20, h⟩ := bindo h
    refine q_call (dst := some 71) rfl (.func _) (.cons (.tmp rfl) (.cons (.int _ _) Evs.nil)) (HInv.static rollcalllaw10_told.at_ rollcalllaw10_told.body (rollcalllaw10_told.snd hD hH hp20)) ?_
    rintro _ _ ⟨rfl, rfl⟩
    refine q_op (dst := some 69) rfl (fun _ ho => ok_move ho (.tmp rfl)) ?_
    refine q_op (dst := some 72) rfl (fun _ ho => ok_extract ho (.tmp rfl) rfl) ?_
    try dsimp only [HAct.put, List.set_cons_zero, List.set_cons_succ]
    refine q_op (dst := some 73) rfl (fun _ ho => ok_extract ho (.tmp rfl) rfl) ?_
    refine q_op (dst := some 18) rfl (fun _ ho => ok_assign ho (.tmp rfl)) ?_
    refine q_op (dst := some 19) rfl (fun _ ho => ok_assign ho (.tmp rfl)) ?_
    refine hr_region_end ?_
    try dsimp only [HAct.put, List.set_cons_zero, List.set_cons_succ]
    refine q_seq e42 ?_
    refine q_region e43 rfl ?_
    refine q_op (dst := some 74) rfl (fun _ ho => ok_move ho (.tmp rfl)) ?_
    refine q_op (dst := some 75) rfl (fun _ ho => ok_move ho (.tmp rfl)) ?_
    rcases ifc h with ⟨hc21, h⟩ | ⟨hc21, h⟩
    · refine q_op_g (t := 75) (dst := some 76) rfl rfl rfl hc21 (fun _ ho => ok_move ho (.tmp rfl)) ?_
      refine q_op (dst := some 77) rfl (fun _ ho => ok_pick_tt ho (.tmp rfl) hc21 (.tmp rfl)) ?_
      try dsimp only [HAct.put, List.set_cons_zero, List.set_cons_succ]
      try dsimp only [HAct.put, List.set_cons_zero, List.set_cons_succ]
      exact J1_snd hD hH h
    · refine q_skip (dst := some 76) (t := 75) rfl rfl rfl (bfalse hc21) ?_
      refine q_op (dst := some 77) rfl (fun _ ho => ok_pick_ff ho (.tmp rfl) (bfalse hc21) (.bool _)) ?_
      try dsimp only [HAct.put, List.set_cons_zero, List.set_cons_succ]
      try dsimp only [HAct.put, List.set_cons_zero, List.set_cons_succ]
      exact J1_snd hD hH h
def f (D : Dp) (H : Hd) (k : Nat) (x0 : Sl) (x1 : Sl) (S : HS) : Option ((Bool) × HS) :=
  (Option.bind (rollcalllaw10_awake.f D H k S) fun p1 =>
  (if (!p1.1) = true then
  some (false, p1.2) else
  (if (Sl.len x0 : Int) > 30 then
  J0 D H k x0 x1 true p1.2 else
  J0 D H k x0 x1 (decide ((Sl.len x1 : Int) > 30)) p1.2)))
theorem snd {D : Dp} {H : Hd} {k : Nat} {x0 : Sl} {x1 : Sl} {S : HS} (hD : DSound Try.prog base W0 D) (hH : HSound Try.prog base W0 β0 H)  {p : (Bool) × HS} (h : f D H k x0 x1 S = some p) : HCall Try.prog base W0 β0 5 [(Sl.hv x0), (Sl.hv x1)] S (fun v S1 => v = (.bool p.1) ∧ S1 = p.2) := by
  unfold f at h
  refine HCall.of_run at_.at_ body ?_
  show HRun Try.prog base W0 β0 5 none [.code c0] ⟨[(Sl.hv x0), (Sl.hv x1), .tup [], .tup [], .tup [], .tup [], .tup [], .tup [], .tup [], .tup [], .tup [], .tup [], .tup [], .tup [], .tup [], .tup [], .tup [], .tup [], .tup [], .tup [], .tup [], .tup [], .tup [], .tup [], .tup [], .tup [], .tup [], .tup [], .tup [], .tup [], .tup [], .tup [], .tup [], .tup [], .tup [], .tup [], .tup [], .tup [], .tup [], .tup [], .tup [], .tup [], .tup [], .tup [], .tup [], .tup [], .tup [], .tup [], .tup [], .tup [], .tup [], .tup [], .tup [], .tup [], .tup [], .tup [], .tup [], .tup [], .tup [], .tup [], .tup [], .tup [], .tup [], .tup [], .tup [], .tup [], .tup [], .tup [], .tup [], .tup [], .tup [], .tup [], .tup [], .tup [], .tup [], .tup [], .tup [], .tup [], .tup [], .tup [], .tup [], .tup [], .tup [], .tup [], .tup [], .tup [], .tup [], .tup [], .tup [], .tup [], .tup [], .tup [], .tup [], .tup [], .tup [], .tup [], .tup [], .tup [], .tup [], .tup [], .tup [], .tup [], .tup [], .tup [], .tup [], .tup [], .tup [], .tup [], .tup [], .tup [], .tup [], .tup [], .tup [], .tup [], .tup [], .tup [], .tup [], .tup [], .tup [], .tup [], .tup [], .tup [], .tup [], .tup [], .tup [], .tup [], .tup [], .tup [], .tup [], .tup [], .tup [], .tup [], .tup [], .tup [], .tup [], .tup [], .tup [], .tup [], .tup [], .tup [], .tup [], .tup [], .tup [], .tup [], .tup [], .tup [], .tup [], .tup [], .tup []], []⟩ S _
  refine q_seq e0 ?_
  refine q_region e1 rfl ?_
  refine q_op (dst := some 4) rfl (fun _ ho => ok_assign ho (.bool _)) ?_
  refine hr_region_end ?_
  try dsimp only [HAct.put, List.set_cons_zero, List.set_cons_succ]
  refine q_seq e2 ?_
  refine q_seq e3 ?_
  refine q_region e4 rfl ?_
  obtain ⟨p1, hp1, h⟩ := bindo h
  refine q_call (dst := some 20) rfl (.func _) Evs.nil (HInv.static rollcalllaw10_awake.at_ rollcalllaw10_awake.body (rollcalllaw10_awake.snd hD hH hp1)) ?_
  rintro _ _ ⟨rfl, rfl⟩
  refine q_op (dst := some 21) rfl (fun _ ho => ok_not ho (.tmp rfl)) ?_
  refine hr_region_end ?_
  try dsimp only [HAct.put, List.set_cons_zero, List.set_cons_succ]
  rcases ifc h with ⟨hc2, h⟩ | ⟨hc2, h⟩
  · refine q_cond_t e5 (.tmp rfl) hc2 ?_
    refine q_seq e6 ?_
    refine q_region e7 rfl ?_
    refine q_op (dst := some 4) rfl (fun _ ho => ok_assign ho (.bool _)) ?_
    refine hr_region_end ?_
    try dsimp only [HAct.put, List.set_cons_zero, List.set_cons_succ]
    cases h
    exact q_ret e8 at_.at_ rfl (res1 rfl rfl) ⟨rfl, rfl⟩
  · refine q_cond_f e5 (.tmp rfl) (bfalse hc2) ?_
    refine q_skipc e9 ?_
    refine q_seq e10 ?_
    refine q_seq e11 ?_
    refine q_region e12 rfl ?_
    refine q_op (dst := some 22) rfl (fun _ ho => ok_move ho (.tmp rfl)) ?_
    refine q_op (dst := some 23) rfl (fun _ ho => ok_len_sl (q := Sl.a x0) (n := Sl.len x0) (z := Sl.cap x0) ho rfl tu24 (.tmp rfl)) ?_
    refine q_op (dst := some 24) rfl (fun _ ho => ok_ibin ho (.tmp rfl) (.int _ _) rfl) ?_
    refine q_op (dst := some 25) rfl (fun _ ho => ok_move ho (.tmp rfl)) ?_
    try dsimp only [HAct.put, List.set_cons_zero, List.set_cons_succ]
    rcases ifc h with ⟨hc3, h⟩ | ⟨hc3, h⟩
    · refine q_skip (dst := some 26) (t := 25) rfl rfl rfl (decide_eq_true hc3) ?_
      refine q_skip (dst := some 27) (t := 25) rfl rfl rfl (decide_eq_true hc3) ?_
      refine q_skip (dst := some 28) (t := 25) rfl rfl rfl (decide_eq_true hc3) ?_
      refine q_op (dst := some 29) rfl (fun _ ho => ok_pick_tt ho (.tmp rfl) (decide_eq_true hc3) (.bool _)) ?_
      refine hr_region_end ?_
      try dsimp only [HAct.put, List.set_cons_zero, List.set_cons_succ]
      try dsimp only [HAct.put, List.set_cons_zero, List.set_cons_succ]
      exact J0_snd hD hH h
    · refine q_op_g (t := 25) (dst := some 26) rfl rfl rfl (decide_eq_false hc3) (fun _ ho => ok_move ho (.tmp rfl)) ?_
      refine q_op_g (t := 25) (dst := some 27) rfl rfl rfl (decide_eq_false hc3) (fun _ ho => ok_len_sl (q := Sl.a x1) (n := Sl.len x1) (z := Sl.cap x1) ho rfl tu24 (.tmp rfl)) ?_
      refine q_op_g (t := 25) (dst := some 28) rfl rfl rfl (decide_eq_false hc3) (fun _ ho => ok_ibin ho (.tmp rfl) (.int _ _) rfl) ?_
      refine q_op (dst := some 29) rfl (fun _ ho => ok_pick_ff ho (.tmp rfl) (decide_eq_false hc3) (.tmp rfl)) ?_
      refine hr_region_end ?_
      try dsimp only [HAct.put, List.set_cons_zero, List.set_cons_succ]
      try dsimp only [HAct.put, List.set_cons_zero, List.set_cons_succ]
      exact J0_snd hD hH h
end
end rollcalllaw10_SetStays
section
variable {base : Nat} {W0 : World} {β0 : Bt}
def call_23 (D : Dp) (H : Hd) (k : Nat) (vs : List HV) (S : HS) : Option (HV × HS) :=
  Option.bind (args2 vs) fun a =>
  Option.bind (dF a.1) fun p0 =>
  Option.bind (dP a.2) fun p1 =>
  Option.bind (set_Union_int_1.f D H k p0 p1 S) fun q =>
  some (.tup [], q.2)
theorem call_23_snd {D : Dp} {H : Hd} {k : Nat} (hD : DSound Try.prog base W0 D) (hH : HSound Try.prog base W0 β0 H) {vs : List HV} {S : HS} {p : HV × HS} (h : call_23 D H k vs S = some p) : HCall Try.prog base W0 β0 23 vs S (fun v1 S1 => v1 = p.1 ∧ S1 = p.2) := by
  unfold call_23 at h
  obtain ⟨a, ha, h⟩ := bindo h
  obtain ⟨p0, hp0, h⟩ := bindo h
  obtain ⟨p1, hp1, h⟩ := bindo h
  obtain ⟨q, hq, h⟩ := bindo h
  rw [args2_out ha, dF_out hp0, dP_out hp1]
  cases h
  exact set_Union_int_1.snd hD hH hq
def call_25 (D : Dp) (H : Hd) (k : Nat) (vs : List HV) (S : HS) : Option (HV × HS) :=
  Option.bind (args3 vs) fun a =>
  Option.bind (dF a.1) fun p0 =>
  Option.bind (dP a.2.1) fun p1 =>
  Option.bind (dP a.2.2) fun p2 =>
  Option.bind (set_Without_int_1.f D H p0 p1 p2 S) fun q =>
  some (.tup [], q.2)
theorem call_25_snd {D : Dp} {H : Hd} {k : Nat} (hD : DSound Try.prog base W0 D) (hH : HSound Try.prog base W0 β0 H) {vs : List HV} {S : HS} {p : HV × HS} (h : call_25 D H k vs S = some p) : HCall Try.prog base W0 β0 25 vs S (fun v1 S1 => v1 = p.1 ∧ S1 = p.2) := by
  unfold call_25 at h
  obtain ⟨a, ha, h⟩ := bindo h
  obtain ⟨p0, hp0, h⟩ := bindo h
  obtain ⟨p1, hp1, h⟩ := bindo h
  obtain ⟨p2, hp2, h⟩ := bindo h
  obtain ⟨q, hq, h⟩ := bindo h
  rw [args3_out ha, dF_out hp0, dP_out hp1, dP_out hp2]
  cases h
  exact set_Without_int_1.snd hD hH hq
def call_35 (D : Dp) (H : Hd) (k : Nat) (vs : List HV) (S : HS) : Option (HV × HS) :=
  Option.bind (args2 vs) fun a =>
  Option.bind (dF a.1) fun p0 =>
  Option.bind (dP a.2) fun p1 =>
  Option.bind (slices_Values_int_int_1.f D H k p0 p1 S) fun q =>
  some (.tup [], q.2)
theorem call_35_snd {D : Dp} {H : Hd} {k : Nat} (hD : DSound Try.prog base W0 D) (hH : HSound Try.prog base W0 β0 H) {vs : List HV} {S : HS} {p : HV × HS} (h : call_35 D H k vs S = some p) : HCall Try.prog base W0 β0 35 vs S (fun v1 S1 => v1 = p.1 ∧ S1 = p.2) := by
  unfold call_35 at h
  obtain ⟨a, ha, h⟩ := bindo h
  obtain ⟨p0, hp0, h⟩ := bindo h
  obtain ⟨p1, hp1, h⟩ := bindo h
  obtain ⟨q, hq, h⟩ := bindo h
  rw [args2_out ha, dF_out hp0, dP_out hp1]
  cases h
  exact slices_Values_int_int_1.snd hD hH hq
def disp (k : Nat) : Nat → Dp
  | 0 => fun _ _ _ _ => none
  | n + 1 => fun H fv vs S => match fv with
    | .fn (.yield l) [] [] => Option.bind (H l) fun r => r vs S
    | .fn (.func f) xs ys => if f = 23 then call_23 (disp k n) H k (xs ++ vs ++ ys) S else if f = 25 then call_25 (disp k n) H k (xs ++ vs ++ ys) S else if f = 35 then call_35 (disp k n) H k (xs ++ vs ++ ys) S else none
    | _ => none
theorem disp_func {k n : Nat} {H : Hd} {f : Nat} {xs ys vs : List HV} {S : HS} : disp k (n + 1) H (.fn (.func f) xs ys) vs S = (if f = 23 then call_23 (disp k n) H k (xs ++ vs ++ ys) S else if f = 25 then call_25 (disp k n) H k (xs ++ vs ++ ys) S else if f = 35 then call_35 (disp k n) H k (xs ++ vs ++ ys) S else none) := rfl
theorem disp_yield {k n : Nat} {H : Hd} {l : Nat} {vs : List HV} {S : HS} : disp k (n + 1) H (.fn (.yield l) [] []) vs S = Option.bind (H l) fun r => r vs S := rfl
theorem disp_snd {k : Nat} : ∀ n, DSound Try.prog base W0 (disp k n) := by
  intro n
  induction n with
  | zero => intro _ _ _ _ _ _ _ _ h; cases h
  | succ n ih =>
    intro β0 H hH fv vs S v S' h
    unfold disp at h
    split at h
    · obtain ⟨r, hr, h⟩ := bindo h
      exact hH _ _ hr _ _ _ _ h
    · skip
      rcases ifc h with ⟨hf, h⟩ | ⟨hf, h⟩
      · subst hf; exact HInv.func set_Union_int_1.at_ set_Union_int_1.body (call_23_snd (k := k) ih hH h)
      rcases ifc h with ⟨hf, h⟩ | ⟨hf, h⟩
      · subst hf; exact HInv.func set_Without_int_1.at_ set_Without_int_1.body (call_25_snd (k := k) ih hH h)
      rcases ifc h with ⟨hf, h⟩ | ⟨hf, h⟩
      · subst hf; exact HInv.func slices_Values_int_int_1.at_ slices_Values_int_int_1.body (call_35_snd (k := k) ih hH h)
      cases h
    · cases h
end
end Go.Proofs.Ytpdainofeaombaa.X
