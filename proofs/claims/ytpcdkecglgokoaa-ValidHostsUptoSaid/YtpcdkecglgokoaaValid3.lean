/- Functions of the program, each as a Lean function over the layer HL: a call answers what the Lean function answers, where it answers. -/
import Derived.Test.YtpcdkecglgokoaaProg
import Derived.Test.YtpcdkecglgokoaaValid2
namespace Go.Proofs.Ytpcdkecglgokoaa.X
open Go.Proofs.Ytpcdkecglgokoaa.HL
set_option linter.unusedVariables false
set_option linter.unusedSimpArgs false
set_option maxRecDepth 20000
namespace rollcallref03_Text
abbrev id : Nat := 23
theorem at_ : FnAt Try.prog 23 Try.f23 := ⟨Try.func23, by kernel_rfl⟩
noncomputable def c0 : Code := (Try.f23.body).getD .skip
noncomputable def c1 : Code := match c0 with | .seq x _ => x | _ => .skip
noncomputable def c2 : Code := match c0 with | .seq _ x => x | _ => .skip
noncomputable def c3 : Code := match c2 with | .seq x _ => x | _ => .skip
noncomputable def c4 : Code := match c2 with | .seq _ x => x | _ => .skip
theorem e0 : c0 = .seq c1 c2 := by kernel_rfl
noncomputable def r1 : Array Oper := match c1 with | .region _ x _ => x | _ => #[]
theorem e1 : c1 = .region 0 r1 false := by kernel_rfl
theorem e2 : c2 = .seq c3 c4 := by kernel_rfl
noncomputable def r3 : Array Oper := match c3 with | .region _ x _ => x | _ => #[]
theorem e3 : c3 = .region 1 r3 false := by kernel_rfl
theorem e4 : c4 = .ret := by kernel_rfl
theorem body : Try.f23.body = some c0 := by kernel_rfl
section
variable {base : Nat} {W0 : World} {β0 : Bt}
def J1 (k : Nat) (y15 : Bool) : Option (Bool) :=
  some y15
theorem J1_snd {k : Nat}  {y15 : Bool} {S : HS} {p : Bool} {g0 g1 g2 g3 g4 g5 g6 g7 g8 g9 g10 g11 g12 g13 g14 : HV} (h : J1 k y15 = some p) : HRun Try.prog base W0 β0 23 none [.inRegion r3 [13], .code c4] ⟨[g0, g1, g2, g3, g4, g5, g6, g7, g8, g9, g10, g11, g12, g13, g14, (.bool y15)], []⟩ S (fun v S1 => v = (.bool p) ∧ S1 = S) := by
  unfold J1 at h
  refine q_op (dst := some 2) rfl (fun _ ho => ok_assign ho (.tmp rfl)) ?_
  refine hr_region_end ?_
  try dsimp only [HAct.put, List.set_cons_zero, List.set_cons_succ]
  cases h
  exact q_ret e4 at_.at_ rfl (res1 rfl rfl) ⟨rfl, rfl⟩
def J0 (k : Nat) (y0 : (List UInt8)) (y10 : Bool) : Option (Bool) :=
  (if y10 = true then
  (Option.bind (rollcallref03_in.f k y0 13) fun p5 =>
  J1 k (!p5)) else
  J1 k false)
theorem J0_snd {k : Nat}  {y0 : (List UInt8)} {y10 : Bool} {S : HS} {p : Bool} {g1 g2 g3 g4 g5 g6 g7 g8 g9 g11 g12 g13 g14 g15 : HV} (h : J0 k y0 y10 = some p) : HRun Try.prog base W0 β0 23 none [.inRegion r3 [8, 9, 10, 11, 12, 13], .code c4] ⟨[(.str y0), g1, g2, g3, g4, g5, g6, g7, g8, g9, (.bool y10), g11, g12, g13, g14, g15], []⟩ S (fun v S1 => v = (.bool p) ∧ S1 = S) := by
  unfold J0 at h
  refine q_op (dst := some 11) rfl (fun _ ho => ok_move ho (.tmp rfl)) ?_
  rcases ifc h with ⟨hc4, h⟩ | ⟨hc4, h⟩
  · refine q_op_g (t := 11) (dst := some 12) rfl rfl rfl hc4 (fun _ ho => ok_move ho (.tmp rfl)) ?_
    obtain ⟨p5, hp5, h⟩ := bindo h
    refine q_call_g (t := 11) (dst := some 13) rfl rfl rfl hc4 (.func _) (.cons (.tmp rfl) (.cons (.int _ _) Evs.nil)) (HInv.static rollcallref03_in.at_ rollcallref03_in.body (rollcallref03_in.snd  hp5)) ?_
    rintro _ _ ⟨rfl, rfl⟩
    refine q_op_g (t := 11) (dst := some 14) rfl rfl rfl hc4 (fun _ ho => ok_not ho (.tmp rfl)) ?_
    try dsimp only [HAct.put, List.set_cons_zero, List.set_cons_succ]
    refine q_op (dst := some 15) rfl (fun _ ho => ok_pick_tt ho (.tmp rfl) hc4 (.tmp rfl)) ?_
    try dsimp only [HAct.put, List.set_cons_zero, List.set_cons_succ]
    exact J1_snd  h
  · refine q_skip (dst := some 12) (t := 11) rfl rfl rfl (bfalse hc4) ?_
    refine q_skip (dst := some 13) (t := 11) rfl rfl rfl (bfalse hc4) ?_
    refine q_skip (dst := some 14) (t := 11) rfl rfl rfl (bfalse hc4) ?_
    try dsimp only [HAct.put, List.set_cons_zero, List.set_cons_succ]
    refine q_op (dst := some 15) rfl (fun _ ho => ok_pick_ff ho (.tmp rfl) (bfalse hc4) (.bool _)) ?_
    try dsimp only [HAct.put, List.set_cons_zero, List.set_cons_succ]
    exact J1_snd  h
def f (k : Nat) (x0 : (List UInt8)) : Option (Bool) :=
  (Option.bind (rollcallref03_in.f k x0 0) fun p1 =>
  (if (!p1) = true then
  (Option.bind (rollcallref03_in.f k x0 10) fun p3 =>
  J0 k x0 (!p3)) else
  J0 k x0 false))
theorem snd {k : Nat} {x0 : (List UInt8)} {S : HS}  {p : Bool} (h : f k x0 = some p) : HCall Try.prog base W0 β0 23 [(.str x0)] S (fun v S1 => v = (.bool p) ∧ S1 = S) := by
  unfold f at h
  refine HCall.of_run at_.at_ body ?_
  show HRun Try.prog base W0 β0 23 none [.code c0] ⟨[(.str x0), .tup [], .tup [], .tup [], .tup [], .tup [], .tup [], .tup [], .tup [], .tup [], .tup [], .tup [], .tup [], .tup [], .tup [], .tup []], []⟩ S _
  refine q_seq e0 ?_
  refine q_region e1 rfl ?_
  refine q_op (dst := some 2) rfl (fun _ ho => ok_assign ho (.bool _)) ?_
  refine hr_region_end ?_
  try dsimp only [HAct.put, List.set_cons_zero, List.set_cons_succ]
  refine q_seq e2 ?_
  refine q_region e3 rfl ?_
  refine q_op (dst := some 3) rfl (fun _ ho => ok_move ho (.tmp rfl)) ?_
  obtain ⟨p1, hp1, h⟩ := bindo h
  refine q_call (dst := some 4) rfl (.func _) (.cons (.tmp rfl) (.cons (.int _ _) Evs.nil)) (HInv.static rollcallref03_in.at_ rollcallref03_in.body (rollcallref03_in.snd  hp1)) ?_
  rintro _ _ ⟨rfl, rfl⟩
  refine q_op (dst := some 5) rfl (fun _ ho => ok_not ho (.tmp rfl)) ?_
  refine q_op (dst := some 6) rfl (fun _ ho => ok_move ho (.tmp rfl)) ?_
  try dsimp only [HAct.put, List.set_cons_zero, List.set_cons_succ]
  rcases ifc h with ⟨hc2, h⟩ | ⟨hc2, h⟩
  · refine q_op_g (t := 6) (dst := some 7) rfl rfl rfl hc2 (fun _ ho => ok_move ho (.tmp rfl)) ?_
    obtain ⟨p3, hp3, h⟩ := bindo h
    refine q_call_g (t := 6) (dst := some 8) rfl rfl rfl hc2 (.func _) (.cons (.tmp rfl) (.cons (.int _ _) Evs.nil)) (HInv.static rollcallref03_in.at_ rollcallref03_in.body (rollcallref03_in.snd  hp3)) ?_
    rintro _ _ ⟨rfl, rfl⟩
    refine q_op_g (t := 6) (dst := some 9) rfl rfl rfl hc2 (fun _ ho => ok_not ho (.tmp rfl)) ?_
    refine q_op (dst := some 10) rfl (fun _ ho => ok_pick_tt ho (.tmp rfl) hc2 (.tmp rfl)) ?_
    try dsimp only [HAct.put, List.set_cons_zero, List.set_cons_succ]
    try dsimp only [HAct.put, List.set_cons_zero, List.set_cons_succ]
    exact J0_snd  h
  · refine q_skip (dst := some 7) (t := 6) rfl rfl rfl (bfalse hc2) ?_
    refine q_skip (dst := some 8) (t := 6) rfl rfl rfl (bfalse hc2) ?_
    refine q_skip (dst := some 9) (t := 6) rfl rfl rfl (bfalse hc2) ?_
    refine q_op (dst := some 10) rfl (fun _ ho => ok_pick_ff ho (.tmp rfl) (bfalse hc2) (.bool _)) ?_
    try dsimp only [HAct.put, List.set_cons_zero, List.set_cons_succ]
    try dsimp only [HAct.put, List.set_cons_zero, List.set_cons_succ]
    exact J0_snd  h
end
end rollcallref03_Text
namespace rollcalllaw03_ValidHosts
abbrev id : Nat := 5
theorem at_ : FnAt Try.prog 5 Try.f5 := ⟨Try.func5, by kernel_rfl⟩
noncomputable def c0 : Code := (Try.f5.body).getD .skip
noncomputable def c1 : Code := match c0 with | .seq x _ => x | _ => .skip
noncomputable def c2 : Code := match c0 with | .seq _ x => x | _ => .skip
noncomputable def c3 : Code := match c2 with | .seq x _ => x | _ => .skip
noncomputable def c4 : Code := match c3 with | .seq x _ => x | _ => .skip
noncomputable def c5 : Code := match c3 with | .seq _ x => x | _ => .skip
noncomputable def c6 : Code := match c5 with | .cond _ x _ => x | _ => .skip
noncomputable def c7 : Code := match c6 with | .seq x _ => x | _ => .skip
noncomputable def c8 : Code := match c6 with | .seq _ x => x | _ => .skip
noncomputable def c9 : Code := match c5 with | .cond _ _ x => x | _ => .skip
noncomputable def c10 : Code := match c2 with | .seq _ x => x | _ => .skip
noncomputable def c11 : Code := match c10 with | .seq x _ => x | _ => .skip
noncomputable def c12 : Code := match c11 with | .seq x _ => x | _ => .skip
noncomputable def c13 : Code := match c11 with | .seq _ x => x | _ => .skip
noncomputable def c14 : Code := match c13 with | .cond _ x _ => x | _ => .skip
noncomputable def c15 : Code := match c14 with | .seq x _ => x | _ => .skip
noncomputable def c16 : Code := match c14 with | .seq _ x => x | _ => .skip
noncomputable def c17 : Code := match c13 with | .cond _ _ x => x | _ => .skip
noncomputable def c18 : Code := match c10 with | .seq _ x => x | _ => .skip
noncomputable def c19 : Code := match c18 with | .seq x _ => x | _ => .skip
noncomputable def c20 : Code := match c18 with | .seq _ x => x | _ => .skip
theorem e0 : c0 = .seq c1 c2 := by kernel_rfl
noncomputable def r1 : Array Oper := match c1 with | .region _ x _ => x | _ => #[]
theorem e1 : c1 = .region 0 r1 false := by kernel_rfl
theorem e2 : c2 = .seq c3 c10 := by kernel_rfl
theorem e3 : c3 = .seq c4 c5 := by kernel_rfl
noncomputable def r4 : Array Oper := match c4 with | .region _ x _ => x | _ => #[]
theorem e4 : c4 = .region 1 r4 false := by kernel_rfl
theorem e5 : c5 = .cond (.tmp 4) c6 c9 := by kernel_rfl
theorem e6 : c6 = .seq c7 c8 := by kernel_rfl
noncomputable def r7 : Array Oper := match c7 with | .region _ x _ => x | _ => #[]
theorem e7 : c7 = .region 2 r7 false := by kernel_rfl
theorem e8 : c8 = .ret := by kernel_rfl
theorem e9 : c9 = .skip := by kernel_rfl
theorem e10 : c10 = .seq c11 c18 := by kernel_rfl
theorem e11 : c11 = .seq c12 c13 := by kernel_rfl
noncomputable def r12 : Array Oper := match c12 with | .region _ x _ => x | _ => #[]
theorem e12 : c12 = .region 3 r12 false := by kernel_rfl
theorem e13 : c13 = .cond (.tmp 7) c14 c17 := by kernel_rfl
theorem e14 : c14 = .seq c15 c16 := by kernel_rfl
noncomputable def r15 : Array Oper := match c15 with | .region _ x _ => x | _ => #[]
theorem e15 : c15 = .region 4 r15 false := by kernel_rfl
theorem e16 : c16 = .ret := by kernel_rfl
theorem e17 : c17 = .skip := by kernel_rfl
theorem e18 : c18 = .seq c19 c20 := by kernel_rfl
noncomputable def r19 : Array Oper := match c19 with | .region _ x _ => x | _ => #[]
theorem e19 : c19 = .region 5 r19 false := by kernel_rfl
theorem e20 : c20 = .ret := by kernel_rfl
theorem body : Try.f5.body = some c0 := by kernel_rfl
section
variable {base : Nat} {W0 : World} {β0 : Bt}
def J2 (k : Nat) (y33 : Bool) (S : HS) : Option ((Bool) × HS) :=
  some (y33, S)
theorem J2_snd {k : Nat}  {y33 : Bool} {S : HS} {p : (Bool) × HS} {g0 g1 g2 g3 g4 g5 g6 g7 g8 g9 g10 g11 g12 g13 g14 g15 g16 g17 g18 g19 g20 g21 g22 g23 g24 g25 g26 g27 g28 g29 g30 g31 g32 : HV} (h : J2 k y33 S = some p) : HRun Try.prog base W0 β0 5 none [.inRegion r19 [26], .code c20] ⟨[g0, g1, g2, g3, g4, g5, g6, g7, g8, g9, g10, g11, g12, g13, g14, g15, g16, g17, g18, g19, g20, g21, g22, g23, g24, g25, g26, g27, g28, g29, g30, g31, g32, (.bool y33)], []⟩ S (fun v S1 => v = (.bool p.1) ∧ S1 = p.2) := by
  unfold J2 at h
  refine q_op (dst := some 2) rfl (fun _ ho => ok_assign ho (.tmp rfl)) ?_
  refine hr_region_end ?_
  try dsimp only [HAct.put, List.set_cons_zero, List.set_cons_succ]
  cases h
  exact q_ret e20 at_.at_ rfl (res1 rfl rfl) ⟨rfl, rfl⟩
def J1 (k : Nat) (y0 : (List UInt8)) (y26 : Bool) (S : HS) : Option ((Bool) × HS) :=
  (if y26 = true then
  (Option.bind (valid_Text.f k y0 S) fun p13 =>
  (Option.bind (rollcallref03_Text.f k y0) fun p14 =>
  J2 k (p13.1 == p14) p13.2)) else
  J2 k false S)
theorem J1_snd {k : Nat}  {y0 : (List UInt8)} {y26 : Bool} {S : HS} {p : (Bool) × HS} {g1 g2 g3 g4 g5 g6 g7 g8 g9 g10 g11 g12 g13 g14 g15 g16 g17 g18 g19 g20 g21 g22 g23 g24 g25 g27 g28 g29 g30 g31 g32 g33 : HV} (h : J1 k y0 y26 S = some p) : HRun Try.prog base W0 β0 5 none [.inRegion r19 [19, 20, 21, 22, 23, 24, 25, 26], .code c20] ⟨[(.str y0), g1, g2, g3, g4, g5, g6, g7, g8, g9, g10, g11, g12, g13, g14, g15, g16, g17, g18, g19, g20, g21, g22, g23, g24, g25, (.bool y26), g27, g28, g29, g30, g31, g32, g33], []⟩ S (fun v S1 => v = (.bool p.1) ∧ S1 = p.2) := by
  unfold J1 at h
  refine q_op (dst := some 27) rfl (fun _ ho => ok_move ho (.tmp rfl)) ?_
  try dsimp only [HAct.put, List.set_cons_zero, List.set_cons_succ]
  rcases ifc h with ⟨hc12, h⟩ | ⟨hc12, h⟩
  · refine q_op_g (t := 27) (dst := some 28) rfl rfl rfl hc12 (fun _ ho => ok_move ho (.tmp rfl)) ?_
    obtain ⟨p13, hp13, h⟩ := bindo h
    refine q_call_g (t := 27) (dst := some 29) rfl rfl rfl hc12 (.func _) (.cons (.tmp rfl) Evs.nil) (HInv.static valid_Text.at_ valid_Text.body (valid_Text.snd  hp13)) ?_
    rintro _ _ ⟨rfl, rfl⟩
    refine q_op_g (t := 27) (dst := some 30) rfl rfl rfl hc12 (fun _ ho => ok_move ho (.tmp rfl)) ?_
    obtain ⟨p14, hp14, h⟩ := bindo h
    refine q_call_g (t := 27) (dst := some 31) rfl rfl rfl hc12 (.func _) (.cons (.tmp rfl) Evs.nil) (HInv.static rollcallref03_Text.at_ rollcallref03_Text.body (rollcallref03_Text.snd  hp14)) ?_
    rintro _ _ ⟨rfl, rfl⟩
    try dsimp only [HAct.put, List.set_cons_zero, List.set_cons_succ]
    refine q_op_g (t := 27) (dst := some 32) rfl rfl rfl hc12 (fun _ ho => ok_beq ho tu4 (.inl ⟨rfl, rfl⟩) (.tmp rfl) (.tmp rfl)) ?_
    refine q_op (dst := some 33) rfl (fun _ ho => ok_pick_tt ho (.tmp rfl) hc12 (.tmp rfl)) ?_
    try dsimp only [HAct.put, List.set_cons_zero, List.set_cons_succ]
    exact J2_snd  h
  · refine q_skip (dst := some 28) (t := 27) rfl rfl rfl (bfalse hc12) ?_
    refine q_skip (dst := some 29) (t := 27) rfl rfl rfl (bfalse hc12) ?_
    refine q_skip (dst := some 30) (t := 27) rfl rfl rfl (bfalse hc12) ?_
    refine q_skip (dst := some 31) (t := 27) rfl rfl rfl (bfalse hc12) ?_
    try dsimp only [HAct.put, List.set_cons_zero, List.set_cons_succ]
    refine q_skip (dst := some 32) (t := 27) rfl rfl rfl (bfalse hc12) ?_
    refine q_op (dst := some 33) rfl (fun _ ho => ok_pick_ff ho (.tmp rfl) (bfalse hc12) (.bool _)) ?_
    try dsimp only [HAct.put, List.set_cons_zero, List.set_cons_succ]
    exact J2_snd  h
def J0 (k : Nat) (y0 : (List UInt8)) (y19 : Bool) (S : HS) : Option ((Bool) × HS) :=
  (if y19 = true then
  (Option.bind (valid_Key.f k y0 S) fun p10 =>
  (Option.bind (rollcallref03_Key.f k y0) fun p11 =>
  J1 k y0 (p10.1 == p11) p10.2)) else
  J1 k y0 false S)
theorem J0_snd {k : Nat}  {y0 : (List UInt8)} {y19 : Bool} {S : HS} {p : (Bool) × HS} {g1 g2 g3 g4 g5 g6 g7 g8 g9 g10 g11 g12 g13 g14 g15 g16 g17 g18 g20 g21 g22 g23 g24 g25 g26 g27 g28 g29 g30 g31 g32 g33 : HV} (h : J0 k y0 y19 S = some p) : HRun Try.prog base W0 β0 5 none [.inRegion r19 [12, 13, 14, 15, 16, 17, 18, 19, 20, 21, 22, 23, 24, 25, 26], .code c20] ⟨[(.str y0), g1, g2, g3, g4, g5, g6, g7, g8, g9, g10, g11, g12, g13, g14, g15, g16, g17, g18, (.bool y19), g20, g21, g22, g23, g24, g25, g26, g27, g28, g29, g30, g31, g32, g33], []⟩ S (fun v S1 => v = (.bool p.1) ∧ S1 = p.2) := by
  unfold J0 at h
  refine q_op (dst := some 20) rfl (fun _ ho => ok_move ho (.tmp rfl)) ?_
  rcases ifc h with ⟨hc9, h⟩ | ⟨hc9, h⟩
  · refine q_op_g (t := 20) (dst := some 21) rfl rfl rfl hc9 (fun _ ho => ok_move ho (.tmp rfl)) ?_
    obtain ⟨p10, hp10, h⟩ := bindo h
    refine q_call_g (t := 20) (dst := some 22) rfl rfl rfl hc9 (.func _) (.cons (.tmp rfl) Evs.nil) (HInv.static valid_Key.at_ valid_Key.body (valid_Key.snd  hp10)) ?_
    rintro _ _ ⟨rfl, rfl⟩
    refine q_op_g (t := 20) (dst := some 23) rfl rfl rfl hc9 (fun _ ho => ok_move ho (.tmp rfl)) ?_
    try dsimp only [HAct.put, List.set_cons_zero, List.set_cons_succ]
    obtain ⟨p11, hp11, h⟩ := bindo h
    refine q_call_g (t := 20) (dst := some 24) rfl rfl rfl hc9 (.func _) (.cons (.tmp rfl) Evs.nil) (HInv.static rollcallref03_Key.at_ rollcallref03_Key.body (rollcallref03_Key.snd  hp11)) ?_
    rintro _ _ ⟨rfl, rfl⟩
    refine q_op_g (t := 20) (dst := some 25) rfl rfl rfl hc9 (fun _ ho => ok_beq ho tu4 (.inl ⟨rfl, rfl⟩) (.tmp rfl) (.tmp rfl)) ?_
    refine q_op (dst := some 26) rfl (fun _ ho => ok_pick_tt ho (.tmp rfl) hc9 (.tmp rfl)) ?_
    try dsimp only [HAct.put, List.set_cons_zero, List.set_cons_succ]
    exact J1_snd  h
  · refine q_skip (dst := some 21) (t := 20) rfl rfl rfl (bfalse hc9) ?_
    refine q_skip (dst := some 22) (t := 20) rfl rfl rfl (bfalse hc9) ?_
    refine q_skip (dst := some 23) (t := 20) rfl rfl rfl (bfalse hc9) ?_
    try dsimp only [HAct.put, List.set_cons_zero, List.set_cons_succ]
    refine q_skip (dst := some 24) (t := 20) rfl rfl rfl (bfalse hc9) ?_
    refine q_skip (dst := some 25) (t := 20) rfl rfl rfl (bfalse hc9) ?_
    refine q_op (dst := some 26) rfl (fun _ ho => ok_pick_ff ho (.tmp rfl) (bfalse hc9) (.bool _)) ?_
    try dsimp only [HAct.put, List.set_cons_zero, List.set_cons_succ]
    exact J1_snd  h
def f (k : Nat) (x0 : (List UInt8)) (S : HS) : Option ((Bool) × HS) :=
  (Option.bind (rollcalllaw03_awake.f k S) fun p1 =>
  (if (!p1.1) = true then
  some (false, p1.2) else
  (if (List.length x0 : Int) > 100 then
  some (true, p1.2) else
  (Option.bind (valid_Host.f k x0 p1.2) fun p4 =>
  (Option.bind (rollcallref03_Host.f k x0) fun p5 =>
  (if (p4.1 == p5) = true then
  (Option.bind (valid_Server.f k x0 p4.2) fun p7 =>
  (Option.bind (rollcallref03_Server.f k x0) fun p8 =>
  J0 k x0 (p7.1 == p8) p7.2)) else
  J0 k x0 false p4.2))))))
theorem snd {k : Nat} {x0 : (List UInt8)} {S : HS}  {p : (Bool) × HS} (h : f k x0 S = some p) : HCall Try.prog base W0 β0 5 [(.str x0)] S (fun v S1 => v = (.bool p.1) ∧ S1 = p.2) := by
  unfold f at h
  refine HCall.of_run at_.at_ body ?_
  show HRun Try.prog base W0 β0 5 none [.code c0] ⟨[(.str x0), .tup [], .tup [], .tup [], .tup [], .tup [], .tup [], .tup [], .tup [], .tup [], .tup [], .tup [], .tup [], .tup [], .tup [], .tup [], .tup [], .tup [], .tup [], .tup [], .tup [], .tup [], .tup [], .tup [], .tup [], .tup [], .tup [], .tup [], .tup [], .tup [], .tup [], .tup [], .tup [], .tup []], []⟩ S _
  refine q_seq e0 ?_
  refine q_region e1 rfl ?_
  refine q_op (dst := some 2) rfl (fun _ ho => ok_assign ho (.bool _)) ?_
  refine hr_region_end ?_
  try dsimp only [HAct.put, List.set_cons_zero, List.set_cons_succ]
  refine q_seq e2 ?_
  refine q_seq e3 ?_
  refine q_region e4 rfl ?_
  obtain ⟨p1, hp1, h⟩ := bindo h
  refine q_call (dst := some 3) rfl (.func _) Evs.nil (HInv.static rollcalllaw03_awake.at_ rollcalllaw03_awake.body (rollcalllaw03_awake.snd  hp1)) ?_
  rintro _ _ ⟨rfl, rfl⟩
  refine q_op (dst := some 4) rfl (fun _ ho => ok_not ho (.tmp rfl)) ?_
  refine hr_region_end ?_
  try dsimp only [HAct.put, List.set_cons_zero, List.set_cons_succ]
  rcases ifc h with ⟨hc2, h⟩ | ⟨hc2, h⟩
  · refine q_cond_t e5 (.tmp rfl) hc2 ?_
    refine q_seq e6 ?_
    refine q_region e7 rfl ?_
    refine q_op (dst := some 2) rfl (fun _ ho => ok_assign ho (.bool _)) ?_
    refine hr_region_end ?_
    try dsimp only [HAct.put, List.set_cons_zero, List.set_cons_succ]
    cases h
    exact q_ret e8 at_.at_ rfl (res1 rfl rfl) ⟨rfl, rfl⟩
  · refine q_cond_f e5 (.tmp rfl) (bfalse hc2) ?_
    refine q_skipc e9 ?_
    refine q_seq e10 ?_
    refine q_seq e11 ?_
    refine q_region e12 rfl ?_
    refine q_op (dst := some 5) rfl (fun _ ho => ok_move ho (.tmp rfl)) ?_
    refine q_op (dst := some 6) rfl (fun _ ho => ok_len_str ho rfl tu9 (.tmp rfl)) ?_
    refine q_op (dst := some 7) rfl (fun _ ho => ok_ibin ho (.tmp rfl) (.int _ _) rfl) ?_
    refine hr_region_end ?_
    try dsimp only [HAct.put, List.set_cons_zero, List.set_cons_succ]
    rcases ifc h with ⟨hc3, h⟩ | ⟨hc3, h⟩
    · refine q_cond_t e13 (.tmp rfl) (decide_eq_true hc3) ?_
      refine q_seq e14 ?_
      refine q_region e15 rfl ?_
      refine q_op (dst := some 2) rfl (fun _ ho => ok_assign ho (.bool _)) ?_
      refine hr_region_end ?_
      try dsimp only [HAct.put, List.set_cons_zero, List.set_cons_succ]
      cases h
      exact q_ret e16 at_.at_ rfl (res1 rfl rfl) ⟨rfl, rfl⟩
    · refine q_cond_f e13 (.tmp rfl) (decide_eq_false hc3) ?_
      refine q_skipc e17 ?_
      refine q_seq e18 ?_
      refine q_region e19 rfl ?_
      refine q_op (dst := some 8) rfl (fun _ ho => ok_move ho (.tmp rfl)) ?_
      obtain ⟨p4, hp4, h⟩ := bindo h
      refine q_call (dst := some 9) rfl (.func _) (.cons (.tmp rfl) Evs.nil) (HInv.static valid_Host.at_ valid_Host.body (valid_Host.snd  hp4)) ?_
      rintro _ _ ⟨rfl, rfl⟩
      refine q_op (dst := some 10) rfl (fun _ ho => ok_move ho (.tmp rfl)) ?_
      obtain ⟨p5, hp5, h⟩ := bindo h
      refine q_call (dst := some 11) rfl (.func _) (.cons (.tmp rfl) Evs.nil) (HInv.static rollcallref03_Host.at_ rollcallref03_Host.body (rollcallref03_Host.snd  hp5)) ?_
      rintro _ _ ⟨rfl, rfl⟩
      try dsimp only [HAct.put, List.set_cons_zero, List.set_cons_succ]
      refine q_op (dst := some 12) rfl (fun _ ho => ok_beq ho tu4 (.inl ⟨rfl, rfl⟩) (.tmp rfl) (.tmp rfl)) ?_
      refine q_op (dst := some 13) rfl (fun _ ho => ok_move ho (.tmp rfl)) ?_
      rcases ifc h with ⟨hc6, h⟩ | ⟨hc6, h⟩
      · refine q_op_g (t := 13) (dst := some 14) rfl rfl rfl hc6 (fun _ ho => ok_move ho (.tmp rfl)) ?_
        obtain ⟨p7, hp7, h⟩ := bindo h
        refine q_call_g (t := 13) (dst := some 15) rfl rfl rfl hc6 (.func _) (.cons (.tmp rfl) Evs.nil) (HInv.static valid_Server.at_ valid_Server.body (valid_Server.snd  hp7)) ?_
        rintro _ _ ⟨rfl, rfl⟩
        try dsimp only [HAct.put, List.set_cons_zero, List.set_cons_succ]
        refine q_op_g (t := 13) (dst := some 16) rfl rfl rfl hc6 (fun _ ho => ok_move ho (.tmp rfl)) ?_
        obtain ⟨p8, hp8, h⟩ := bindo h
        refine q_call_g (t := 13) (dst := some 17) rfl rfl rfl hc6 (.func _) (.cons (.tmp rfl) Evs.nil) (HInv.static rollcallref03_Server.at_ rollcallref03_Server.body (rollcallref03_Server.snd  hp8)) ?_
        rintro _ _ ⟨rfl, rfl⟩
        refine q_op_g (t := 13) (dst := some 18) rfl rfl rfl hc6 (fun _ ho => ok_beq ho tu4 (.inl ⟨rfl, rfl⟩) (.tmp rfl) (.tmp rfl)) ?_
        refine q_op (dst := some 19) rfl (fun _ ho => ok_pick_tt ho (.tmp rfl) hc6 (.tmp rfl)) ?_
        try dsimp only [HAct.put, List.set_cons_zero, List.set_cons_succ]
        try dsimp only [HAct.put, List.set_cons_zero, List.set_cons_succ]
        exact J0_snd  h
      · refine q_skip (dst := some 14) (t := 13) rfl rfl rfl (bfalse hc6) ?_
        refine q_skip (dst := some 15) (t := 13) rfl rfl rfl (bfalse hc6) ?_
        try dsimp only [HAct.put, List.set_cons_zero, List.set_cons_succ]
        refine q_skip (dst := some 16) (t := 13) rfl rfl rfl (bfalse hc6) ?_
        refine q_skip (dst := some 17) (t := 13) rfl rfl rfl (bfalse hc6) ?_
        refine q_skip (dst := some 18) (t := 13) rfl rfl rfl (bfalse hc6) ?_
        refine q_op (dst := some 19) rfl (fun _ ho => ok_pick_ff ho (.tmp rfl) (bfalse hc6) (.bool _)) ?_
        try dsimp only [HAct.put, List.set_cons_zero, List.set_cons_succ]
        try dsimp only [HAct.put, List.set_cons_zero, List.set_cons_succ]
        exact J0_snd  h
end
end rollcalllaw03_ValidHosts
end Go.Proofs.Ytpcdkecglgokoaa.X
