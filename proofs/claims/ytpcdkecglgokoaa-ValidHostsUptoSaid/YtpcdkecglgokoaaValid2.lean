/- Functions of the program, each as a Lean function over the layer HL: a call answers what the Lean function answers, where it answers. -/
import Derived.Test.YtpcdkecglgokoaaProg
import Derived.Test.YtpcdkecglgokoaaValid
namespace Go.Proofs.Ytpcdkecglgokoaa.X
open Go.Proofs.Ytpcdkecglgokoaa.HL
set_option linter.unusedVariables false
set_option linter.unusedSimpArgs false
set_option maxRecDepth 20000
namespace rollcallref03_Letter
abbrev id : Nat := 28
theorem at_ : FnAt Try.prog 28 Try.f28 := ⟨Try.func28, by kernel_rfl⟩
noncomputable def c0 : Code := (Try.f28.body).getD .skip
noncomputable def c1 : Code := match c0 with | .seq x _ => x | _ => .skip
noncomputable def c2 : Code := match c0 with | .seq _ x => x | _ => .skip
noncomputable def c3 : Code := match c2 with | .seq x _ => x | _ => .skip
noncomputable def c4 : Code := match c2 with | .seq _ x => x | _ => .skip
theorem e0 : c0 = .seq c1 c2 := by kernel_rfl
noncomputable def r1 : Array Oper := match c1 with | .region _ x _ => x | _ => #[]
theorem e1 : c1 = .region 0 r1 false := by kernel_rfl
theorem e2 : c2 = .seq c3 c4 := by kernel_rfl
noncomputable def r3 : Array Oper := match c3 with | .region _ x _ => x | _ => #[]
theorem e3 : c3 = .region 1 r3 false := by kernel_rfl
theorem e4 : c4 = .ret := by kernel_rfl
theorem body : Try.f28.body = some c0 := by kernel_rfl
section
variable {base : Nat} {W0 : World} {β0 : Bt}
def J1  (y16 : Bool) : Option (Bool) :=
  some y16
theorem J1_snd   {y16 : Bool} {S : HS} {p : Bool} {g0 g1 g2 g3 g4 g5 g6 g7 g8 g9 g10 g11 g12 g13 g14 g15 : HV} (h : J1  y16 = some p) : HRun Try.prog base W0 β0 28 none [.inRegion r3 [14], .code c4] ⟨[g0, g1, g2, g3, g4, g5, g6, g7, g8, g9, g10, g11, g12, g13, g14, g15, (.bool y16)], []⟩ S (fun v S1 => v = (.bool p) ∧ S1 = S) := by
  unfold J1 at h
  refine q_op (dst := some 2) rfl (fun _ ho => ok_assign ho (.tmp rfl)) ?_
  refine hr_region_end ?_
  try dsimp only [HAct.put, List.set_cons_zero, List.set_cons_succ]
  cases h
  exact q_ret e4 at_.at_ rfl (res1 rfl rfl) ⟨rfl, rfl⟩
def J2  (y9 : Bool) (y15 : Bool) : Option (Bool) :=
  (if y9 = true then
  J1 true else
  J1 y15)
theorem J2_snd   {y9 : Bool} {y15 : Bool} {S : HS} {p : Bool} {g0 g1 g2 g3 g4 g5 g6 g7 g8 g10 g11 g12 g13 g14 g16 : HV} (h : J2  y9 y15 = some p) : HRun Try.prog base W0 β0 28 none [.inRegion r3 [13, 14], .code c4] ⟨[g0, g1, g2, g3, g4, g5, g6, g7, g8, (.bool y9), g10, g11, g12, g13, g14, (.bool y15), g16], []⟩ S (fun v S1 => v = (.bool p) ∧ S1 = S) := by
  unfold J2 at h
  rcases ifc h with ⟨hc4, h⟩ | ⟨hc4, h⟩
  · refine q_op (dst := some 16) rfl (fun _ ho => ok_pick_tt ho (.tmp rfl) hc4 (.bool _)) ?_
    try dsimp only [HAct.put, List.set_cons_zero, List.set_cons_succ]
    exact J1_snd  h
  · refine q_op (dst := some 16) rfl (fun _ ho => ok_pick_ff ho (.tmp rfl) (bfalse hc4) (.tmp rfl)) ?_
    try dsimp only [HAct.put, List.set_cons_zero, List.set_cons_succ]
    exact J1_snd  h
def J0  (y0 : Int) (y8 : Bool) : Option (Bool) :=
  (if y8 = true then
  J1 true else
  (if y0 ≥ 97 then
  J2 y8 (decide (y0 ≤ 122)) else
  J2 y8 false))
theorem J0_snd   {y0 : Int} {y8 : Bool} {S : HS} {p : Bool} {g1 g2 g3 g4 g5 g6 g7 g9 g10 g11 g12 g13 g14 g15 g16 : HV} (h : J0  y0 y8 = some p) : HRun Try.prog base W0 β0 28 none [.inRegion r3 [6, 7, 8, 9, 10, 11, 12, 13, 14], .code c4] ⟨[(.int .u8 y0), g1, g2, g3, g4, g5, g6, g7, (.bool y8), g9, g10, g11, g12, g13, g14, g15, g16], []⟩ S (fun v S1 => v = (.bool p) ∧ S1 = S) := by
  unfold J0 at h
  refine q_op (dst := some 9) rfl (fun _ ho => ok_move ho (.tmp rfl)) ?_
  rcases ifc h with ⟨hc2, h⟩ | ⟨hc2, h⟩
  · refine q_skip (dst := some 10) (t := 9) rfl rfl rfl hc2 ?_
    try dsimp only [HAct.put, List.set_cons_zero, List.set_cons_succ]
    refine q_skip (dst := some 11) (t := 9) rfl rfl rfl hc2 ?_
    refine q_skip (dst := some 12) (t := 9) rfl rfl rfl hc2 ?_
    refine q_skip_u (dst := some 13) (t := 12) rfl rfl rfl ?_
    refine q_skip_u (dst := some 14) (t := 12) rfl rfl rfl ?_
    try dsimp only [HAct.put, List.set_cons_zero, List.set_cons_succ]
    refine q_skip (dst := some 15) (t := 9) rfl rfl rfl hc2 ?_
    refine q_op (dst := some 16) rfl (fun _ ho => ok_pick_tt ho (.tmp rfl) hc2 (.bool _)) ?_
    try dsimp only [HAct.put, List.set_cons_zero, List.set_cons_succ]
    exact J1_snd  h
  · refine q_op_g (t := 9) (dst := some 10) rfl rfl rfl (bfalse hc2) (fun _ ho => ok_move ho (.tmp rfl)) ?_
    try dsimp only [HAct.put, List.set_cons_zero, List.set_cons_succ]
    refine q_op_g (t := 9) (dst := some 11) rfl rfl rfl (bfalse hc2) (fun _ ho => ok_ibin ho (.tmp rfl) (.int _ _) rfl) ?_
    refine q_op_g (t := 9) (dst := some 12) rfl rfl rfl (bfalse hc2) (fun _ ho => ok_move ho (.tmp rfl)) ?_
    rcases ifc h with ⟨hc3, h⟩ | ⟨hc3, h⟩
    · refine q_op_g (t := 12) (dst := some 13) rfl rfl rfl (decide_eq_true hc3) (fun _ ho => ok_move ho (.tmp rfl)) ?_
      refine q_op_g (t := 12) (dst := some 14) rfl rfl rfl (decide_eq_true hc3) (fun _ ho => ok_ibin ho (.tmp rfl) (.int _ _) rfl) ?_
      try dsimp only [HAct.put, List.set_cons_zero, List.set_cons_succ]
      refine q_op_g (t := 9) (dst := some 15) rfl rfl rfl (bfalse hc2) (fun _ ho => ok_pick_tt ho (.tmp rfl) (decide_eq_true hc3) (.tmp rfl)) ?_
      try dsimp only [HAct.put, List.set_cons_zero, List.set_cons_succ]
      exact J2_snd  h
    · refine q_skip (dst := some 13) (t := 12) rfl rfl rfl (decide_eq_false hc3) ?_
      refine q_skip (dst := some 14) (t := 12) rfl rfl rfl (decide_eq_false hc3) ?_
      try dsimp only [HAct.put, List.set_cons_zero, List.set_cons_succ]
      refine q_op_g (t := 9) (dst := some 15) rfl rfl rfl (bfalse hc2) (fun _ ho => ok_pick_ff ho (.tmp rfl) (decide_eq_false hc3) (.bool _)) ?_
      try dsimp only [HAct.put, List.set_cons_zero, List.set_cons_succ]
      exact J2_snd  h
def f (x0 : Int) : Option (Bool) :=
  (if x0 ≥ 65 then
  J0 x0 (decide (x0 ≤ 90)) else
  J0 x0 false)
theorem snd {x0 : Int} {S : HS}  {p : Bool} (h : f x0 = some p) : HCall Try.prog base W0 β0 28 [(.int .u8 x0)] S (fun v S1 => v = (.bool p) ∧ S1 = S) := by
  unfold f at h
  refine HCall.of_run at_.at_ body ?_
  show HRun Try.prog base W0 β0 28 none [.code c0] ⟨[(.int .u8 x0), .tup [], .tup [], .tup [], .tup [], .tup [], .tup [], .tup [], .tup [], .tup [], .tup [], .tup [], .tup [], .tup [], .tup [], .tup [], .tup []], []⟩ S _
  refine q_seq e0 ?_
  refine q_region e1 rfl ?_
  refine q_op (dst := some 2) rfl (fun _ ho => ok_assign ho (.bool _)) ?_
  refine hr_region_end ?_
  try dsimp only [HAct.put, List.set_cons_zero, List.set_cons_succ]
  refine q_seq e2 ?_
  refine q_region e3 rfl ?_
  refine q_op (dst := some 3) rfl (fun _ ho => ok_move ho (.tmp rfl)) ?_
  refine q_op (dst := some 4) rfl (fun _ ho => ok_ibin ho (.tmp rfl) (.int _ _) rfl) ?_
  refine q_op (dst := some 5) rfl (fun _ ho => ok_move ho (.tmp rfl)) ?_
  rcases ifc h with ⟨hc1, h⟩ | ⟨hc1, h⟩
  · refine q_op_g (t := 5) (dst := some 6) rfl rfl rfl (decide_eq_true hc1) (fun _ ho => ok_move ho (.tmp rfl)) ?_
    try dsimp only [HAct.put, List.set_cons_zero, List.set_cons_succ]
    refine q_op_g (t := 5) (dst := some 7) rfl rfl rfl (decide_eq_true hc1) (fun _ ho => ok_ibin ho (.tmp rfl) (.int _ _) rfl) ?_
    refine q_op (dst := some 8) rfl (fun _ ho => ok_pick_tt ho (.tmp rfl) (decide_eq_true hc1) (.tmp rfl)) ?_
    try dsimp only [HAct.put, List.set_cons_zero, List.set_cons_succ]
    exact J0_snd  h
  · refine q_skip (dst := some 6) (t := 5) rfl rfl rfl (decide_eq_false hc1) ?_
    try dsimp only [HAct.put, List.set_cons_zero, List.set_cons_succ]
    refine q_skip (dst := some 7) (t := 5) rfl rfl rfl (decide_eq_false hc1) ?_
    refine q_op (dst := some 8) rfl (fun _ ho => ok_pick_ff ho (.tmp rfl) (decide_eq_false hc1) (.bool _)) ?_
    try dsimp only [HAct.put, List.set_cons_zero, List.set_cons_succ]
    exact J0_snd  h
end
end rollcallref03_Letter
namespace rollcallref03_in
abbrev id : Nat := 31
theorem at_ : FnAt Try.prog 31 Try.f31 := ⟨Try.func31, by kernel_rfl⟩
noncomputable def c0 : Code := (Try.f31.body).getD .skip
noncomputable def c1 : Code := match c0 with | .seq x _ => x | _ => .skip
noncomputable def c2 : Code := match c0 with | .seq _ x => x | _ => .skip
noncomputable def c3 : Code := match c2 with | .seq x _ => x | _ => .skip
noncomputable def c4 : Code := match c3 with | .seq x _ => x | _ => .skip
noncomputable def c5 : Code := match c3 with | .seq _ x => x | _ => .skip
noncomputable def c6 : Code := match c5 with | .block _ x => x | _ => .skip
noncomputable def c7 : Code := match c6 with | .loop x => x | _ => .skip
noncomputable def c8 : Code := match c7 with | .seq x _ => x | _ => .skip
noncomputable def c9 : Code := match c8 with | .seq x _ => x | _ => .skip
noncomputable def c10 : Code := match c8 with | .seq _ x => x | _ => .skip
noncomputable def c11 : Code := match c10 with | .cond _ x _ => x | _ => .skip
noncomputable def c12 : Code := match c10 with | .cond _ _ x => x | _ => .skip
noncomputable def c13 : Code := match c7 with | .seq _ x => x | _ => .skip
noncomputable def c14 : Code := match c13 with | .seq x _ => x | _ => .skip
noncomputable def c15 : Code := match c14 with | .block _ x => x | _ => .skip
noncomputable def c16 : Code := match c15 with | .seq x _ => x | _ => .skip
noncomputable def c17 : Code := match c15 with | .seq _ x => x | _ => .skip
noncomputable def c18 : Code := match c17 with | .cond _ x _ => x | _ => .skip
noncomputable def c19 : Code := match c18 with | .seq x _ => x | _ => .skip
noncomputable def c20 : Code := match c18 with | .seq _ x => x | _ => .skip
noncomputable def c21 : Code := match c17 with | .cond _ _ x => x | _ => .skip
noncomputable def c22 : Code := match c13 with | .seq _ x => x | _ => .skip
noncomputable def c23 : Code := match c2 with | .seq _ x => x | _ => .skip
noncomputable def c24 : Code := match c23 with | .seq x _ => x | _ => .skip
noncomputable def c25 : Code := match c23 with | .seq _ x => x | _ => .skip
theorem e0 : c0 = .seq c1 c2 := by kernel_rfl
noncomputable def r1 : Array Oper := match c1 with | .region _ x _ => x | _ => #[]
theorem e1 : c1 = .region 0 r1 false := by kernel_rfl
theorem e2 : c2 = .seq c3 c23 := by kernel_rfl
theorem e3 : c3 = .seq c4 c5 := by kernel_rfl
noncomputable def r4 : Array Oper := match c4 with | .region _ x _ => x | _ => #[]
theorem e4 : c4 = .region 1 r4 false := by kernel_rfl
theorem e5 : c5 = .block 0 c6 := by kernel_rfl
theorem e6 : c6 = .loop c7 := by kernel_rfl
theorem e7 : c7 = .seq c8 c13 := by kernel_rfl
theorem e8 : c8 = .seq c9 c10 := by kernel_rfl
noncomputable def r9 : Array Oper := match c9 with | .region _ x _ => x | _ => #[]
theorem e9 : c9 = .region 2 r9 false := by kernel_rfl
theorem e10 : c10 = .cond (.tmp 9) c11 c12 := by kernel_rfl
theorem e11 : c11 = .skip := by kernel_rfl
theorem e12 : c12 = .exit 0 := by kernel_rfl
theorem e13 : c13 = .seq c14 c22 := by kernel_rfl
theorem e14 : c14 = .block 1 c15 := by kernel_rfl
theorem e15 : c15 = .seq c16 c17 := by kernel_rfl
noncomputable def r16 : Array Oper := match c16 with | .region _ x _ => x | _ => #[]
theorem e16 : c16 = .region 4 r16 false := by kernel_rfl
theorem e17 : c17 = .cond (.tmp 16) c18 c21 := by kernel_rfl
theorem e18 : c18 = .seq c19 c20 := by kernel_rfl
noncomputable def r19 : Array Oper := match c19 with | .region _ x _ => x | _ => #[]
theorem e19 : c19 = .region 5 r19 false := by kernel_rfl
theorem e20 : c20 = .ret := by kernel_rfl
theorem e21 : c21 = .skip := by kernel_rfl
noncomputable def r22 : Array Oper := match c22 with | .region _ x _ => x | _ => #[]
theorem e22 : c22 = .region 3 r22 false := by kernel_rfl
theorem e23 : c23 = .seq c24 c25 := by kernel_rfl
noncomputable def r24 : Array Oper := match c24 with | .region _ x _ => x | _ => #[]
theorem e24 : c24 = .region 6 r24 false := by kernel_rfl
theorem e25 : c25 = .ret := by kernel_rfl
theorem body : Try.f31.body = some c0 := by kernel_rfl
section
variable {base : Nat} {W0 : World} {β0 : Bt}
def L0 (k : Nat) : Nat → (List UInt8) → Int → Int → Option (Bool)
  | 0, _, _, _ => none
  | n + 1, y0, y1, y5 =>
    (if y5 < (List.length y0 : Int) then
    (Option.bind (sat y0 y5) fun p2 =>
    (if (UInt8.toNat p2 : Int) = y1 then
    some true else
    (L0 k n) y0 y1 (w64 (y5 + 1)))) else
    some false)
theorem L0_snd {k : Nat}  : ∀ {n : Nat} ⦃y0 : (List UInt8)⦄ ⦃y1 : Int⦄ ⦃y5 : Int⦄ ⦃S : HS⦄ ⦃p : Bool⦄ ⦃g2 g3 g4 g6 g7 g8 g9 g10 g11 g12 g13 g14 g15 g16 : HV⦄, L0 k n y0 y1 y5 = some p → HRun Try.prog base W0 β0 31 none [.inLoop c7, .inBlock 0, .code c23] ⟨[(.str y0), (.int .u8 y1), g2, g3, g4, (.int .i64 y5), g6, g7, g8, g9, g10, g11, g12, g13, g14, g15, g16], []⟩ S (fun v S1 => v = (.bool p) ∧ S1 = S) := by
  intro n
  induction n with
  | zero => intro _ _ _ _ _ _ _ _ _ _ _ _ _ _ _ _ _ _ _ h; cases h
  | succ n ih =>
    intro y0 y1 y5 S p g2 g3 g4 g6 g7 g8 g9 g10 g11 g12 g13 g14 g15 g16 h
    simp only [L0] at h
    refine hr_inLoop ?_
    refine q_seq e7 ?_
    refine q_seq e8 ?_
    refine q_region e9 rfl ?_
    refine q_op (dst := some 6) rfl (fun _ ho => ok_move ho (.tmp rfl)) ?_
    refine q_op (dst := some 7) rfl (fun _ ho => ok_move ho (.tmp rfl)) ?_
    refine q_op (dst := some 8) rfl (fun _ ho => ok_len_str ho rfl tu9 (.tmp rfl)) ?_
    refine q_op (dst := some 9) rfl (fun _ ho => ok_ibin ho (.tmp rfl) (.tmp rfl) rfl) ?_
    refine hr_region_end ?_
    try dsimp only [HAct.put, List.set_cons_zero, List.set_cons_succ]
    rcases ifc h with ⟨hc1, h⟩ | ⟨hc1, h⟩
    · refine q_cond_t e10 (.tmp rfl) (decide_eq_true hc1) ?_
      refine q_skipc e11 ?_
      refine q_seq e13 ?_
      refine q_block e14 ?_
      refine q_seq e15 ?_
      refine q_region e16 rfl ?_
      refine q_op (dst := some 12) rfl (fun _ ho => ok_move ho (.tmp rfl)) ?_
      refine q_op (dst := some 13) rfl (fun _ ho => ok_move ho (.tmp rfl)) ?_
      obtain ⟨p2, hp2, h⟩ := bindo h
      refine q_op (dst := some 14) rfl (fun _ ho => ok_index_s ho tu9 (.tmp rfl) (.tmp rfl) hp2) ?_
      refine q_op (dst := some 15) rfl (fun _ ho => ok_move ho (.tmp rfl)) ?_
      try dsimp only [HAct.put, List.set_cons_zero, List.set_cons_succ]
      refine q_op (dst := some 16) rfl (fun _ ho => ok_ibin ho (.tmp rfl) (.tmp rfl) rfl) ?_
      refine hr_region_end ?_
      try dsimp only [HAct.put, List.set_cons_zero, List.set_cons_succ]
      rcases ifc h with ⟨hc3, h⟩ | ⟨hc3, h⟩
      · refine q_cond_t e17 (.tmp rfl) (decide_eq_true hc3) ?_
        refine q_seq e18 ?_
        refine q_region e19 rfl ?_
        refine q_op (dst := some 4) rfl (fun _ ho => ok_assign ho (.bool _)) ?_
        refine hr_region_end ?_
        try dsimp only [HAct.put, List.set_cons_zero, List.set_cons_succ]
        cases h
        exact q_ret e20 at_.at_ rfl (res1 rfl rfl) ⟨rfl, rfl⟩
      · refine q_cond_f e17 (.tmp rfl) (decide_eq_false hc3) ?_
        refine q_skipc e21 ?_
        refine hr_inBlock ?_
        refine q_region e22 rfl ?_
        refine q_op (dst := some 10) rfl (fun _ ho => ok_move ho (.tmp rfl)) ?_
        refine q_op (dst := some 11) rfl (fun _ ho => ok_ibin ho (.tmp rfl) (.int _ _) rfl) ?_
        refine q_op (dst := some 5) rfl (fun _ ho => ok_assign ho (.tmp rfl)) ?_
        refine hr_region_end ?_
        try dsimp only [HAct.put, List.set_cons_zero, List.set_cons_succ]
        try dsimp only [HAct.put, List.set_cons_zero, List.set_cons_succ]
        exact ih h
    · refine q_cond_f e10 (.tmp rfl) (decide_eq_false hc1) ?_
      refine q_exit e12 rfl ?_
      refine q_seq e23 ?_
      refine q_region e24 rfl ?_
      refine q_op (dst := some 4) rfl (fun _ ho => ok_assign ho (.bool _)) ?_
      refine hr_region_end ?_
      try dsimp only [HAct.put, List.set_cons_zero, List.set_cons_succ]
      cases h
      exact q_ret e25 at_.at_ rfl (res1 rfl rfl) ⟨rfl, rfl⟩
def f (k : Nat) (x0 : (List UInt8)) (x1 : Int) : Option (Bool) :=
  L0 k k x0 x1 0
theorem snd {k : Nat} {x0 : (List UInt8)} {x1 : Int} {S : HS}  {p : Bool} (h : f k x0 x1 = some p) : HCall Try.prog base W0 β0 31 [(.str x0), (.int .u8 x1)] S (fun v S1 => v = (.bool p) ∧ S1 = S) := by
  unfold f at h
  refine HCall.of_run at_.at_ body ?_
  show HRun Try.prog base W0 β0 31 none [.code c0] ⟨[(.str x0), (.int .u8 x1), .tup [], .tup [], .tup [], .tup [], .tup [], .tup [], .tup [], .tup [], .tup [], .tup [], .tup [], .tup [], .tup [], .tup [], .tup []], []⟩ S _
  refine q_seq e0 ?_
  refine q_region e1 rfl ?_
  refine q_op (dst := some 4) rfl (fun _ ho => ok_assign ho (.bool _)) ?_
  refine hr_region_end ?_
  try dsimp only [HAct.put, List.set_cons_zero, List.set_cons_succ]
  refine q_seq e2 ?_
  refine q_seq e3 ?_
  refine q_region e4 rfl ?_
  refine q_op (dst := some 5) rfl (fun _ ho => ok_assign ho (.int _ _)) ?_
  refine hr_region_end ?_
  try dsimp only [HAct.put, List.set_cons_zero, List.set_cons_succ]
  refine q_block e5 ?_
  refine q_loop e6 ?_
  try dsimp only [HAct.put, List.set_cons_zero, List.set_cons_succ]
  exact L0_snd  h
end
end rollcallref03_in
namespace rollcallref03_Sign
abbrev id : Nat := 29
theorem at_ : FnAt Try.prog 29 Try.f29 := ⟨Try.func29, by kernel_rfl⟩
noncomputable def c0 : Code := (Try.f29.body).getD .skip
noncomputable def c1 : Code := match c0 with | .seq x _ => x | _ => .skip
noncomputable def c2 : Code := match c0 with | .seq _ x => x | _ => .skip
noncomputable def c3 : Code := match c2 with | .seq x _ => x | _ => .skip
noncomputable def c4 : Code := match c2 with | .seq _ x => x | _ => .skip
theorem e0 : c0 = .seq c1 c2 := by kernel_rfl
noncomputable def r1 : Array Oper := match c1 with | .region _ x _ => x | _ => #[]
theorem e1 : c1 = .region 0 r1 false := by kernel_rfl
theorem e2 : c2 = .seq c3 c4 := by kernel_rfl
noncomputable def r3 : Array Oper := match c3 with | .region _ x _ => x | _ => #[]
theorem e3 : c3 = .region 1 r3 false := by kernel_rfl
theorem e4 : c4 = .ret := by kernel_rfl
theorem body : Try.f29.body = some c0 := by kernel_rfl
section
variable {base : Nat} {W0 : World} {β0 : Bt}
def J0 (k : Nat) (y8 : Bool) : Option (Bool) :=
  some y8
theorem J0_snd {k : Nat}  {y8 : Bool} {S : HS} {p : Bool} {g0 g1 g2 g3 g4 g5 g6 g7 : HV} (h : J0 k y8 = some p) : HRun Try.prog base W0 β0 29 none [.inRegion r3 [6], .code c4] ⟨[g0, g1, g2, g3, g4, g5, g6, g7, (.bool y8)], []⟩ S (fun v S1 => v = (.bool p) ∧ S1 = S) := by
  unfold J0 at h
  refine q_op (dst := some 2) rfl (fun _ ho => ok_assign ho (.tmp rfl)) ?_
  refine hr_region_end ?_
  try dsimp only [HAct.put, List.set_cons_zero, List.set_cons_succ]
  cases h
  exact q_ret e4 at_.at_ rfl (res1 rfl rfl) ⟨rfl, rfl⟩
def f (k : Nat) (x0 : Int) : Option (Bool) :=
  (if x0 = 96 then
  J0 k true else
  (Option.bind (rollcallref03_in.f k ([91, 93, 92, 95, 94, 123, 124, 125] : List UInt8) x0) fun p2 =>
  J0 k p2))
theorem snd {k : Nat} {x0 : Int} {S : HS}  {p : Bool} (h : f k x0 = some p) : HCall Try.prog base W0 β0 29 [(.int .u8 x0)] S (fun v S1 => v = (.bool p) ∧ S1 = S) := by
  unfold f at h
  refine HCall.of_run at_.at_ body ?_
  show HRun Try.prog base W0 β0 29 none [.code c0] ⟨[(.int .u8 x0), .tup [], .tup [], .tup [], .tup [], .tup [], .tup [], .tup [], .tup []], []⟩ S _
  refine q_seq e0 ?_
  refine q_region e1 rfl ?_
  refine q_op (dst := some 2) rfl (fun _ ho => ok_assign ho (.bool _)) ?_
  refine hr_region_end ?_
  try dsimp only [HAct.put, List.set_cons_zero, List.set_cons_succ]
  refine q_seq e2 ?_
  refine q_region e3 rfl ?_
  refine q_op (dst := some 3) rfl (fun _ ho => ok_move ho (.tmp rfl)) ?_
  refine q_op (dst := some 4) rfl (fun _ ho => ok_ibin ho (.tmp rfl) (.int _ _) rfl) ?_
  refine q_op (dst := some 5) rfl (fun _ ho => ok_move ho (.tmp rfl)) ?_
  rcases ifc h with ⟨hc1, h⟩ | ⟨hc1, h⟩
  · refine q_skip (dst := some 6) (t := 5) rfl rfl rfl (decide_eq_true hc1) ?_
    try dsimp only [HAct.put, List.set_cons_zero, List.set_cons_succ]
    refine q_skip (dst := some 7) (t := 5) rfl rfl rfl (decide_eq_true hc1) ?_
    refine q_op (dst := some 8) rfl (fun _ ho => ok_pick_tt ho (.tmp rfl) (decide_eq_true hc1) (.bool _)) ?_
    try dsimp only [HAct.put, List.set_cons_zero, List.set_cons_succ]
    exact J0_snd  h
  · refine q_op_g (t := 5) (dst := some 6) rfl rfl rfl (decide_eq_false hc1) (fun _ ho => ok_move ho (.tmp rfl)) ?_
    try dsimp only [HAct.put, List.set_cons_zero, List.set_cons_succ]
    obtain ⟨p2, hp2, h⟩ := bindo h
    refine q_call_g (t := 5) (dst := some 7) rfl rfl rfl (decide_eq_false hc1) (.func _) (.cons (.str _) (.cons (.tmp rfl) Evs.nil)) (HInv.static rollcallref03_in.at_ rollcallref03_in.body (rollcallref03_in.snd  hp2)) ?_
    rintro _ _ ⟨rfl, rfl⟩
    refine q_op (dst := some 8) rfl (fun _ ho => ok_pick_ff ho (.tmp rfl) (decide_eq_false hc1) (.tmp rfl)) ?_
    try dsimp only [HAct.put, List.set_cons_zero, List.set_cons_succ]
    exact J0_snd  h
end
end rollcallref03_Sign
namespace rollcallref03_Digit
abbrev id : Nat := 30
theorem at_ : FnAt Try.prog 30 Try.f30 := ⟨Try.func30, by kernel_rfl⟩
noncomputable def c0 : Code := (Try.f30.body).getD .skip
noncomputable def c1 : Code := match c0 with | .seq x _ => x | _ => .skip
noncomputable def c2 : Code := match c0 with | .seq _ x => x | _ => .skip
noncomputable def c3 : Code := match c2 with | .seq x _ => x | _ => .skip
noncomputable def c4 : Code := match c2 with | .seq _ x => x | _ => .skip
theorem e0 : c0 = .seq c1 c2 := by kernel_rfl
noncomputable def r1 : Array Oper := match c1 with | .region _ x _ => x | _ => #[]
theorem e1 : c1 = .region 0 r1 false := by kernel_rfl
theorem e2 : c2 = .seq c3 c4 := by kernel_rfl
noncomputable def r3 : Array Oper := match c3 with | .region _ x _ => x | _ => #[]
theorem e3 : c3 = .region 1 r3 false := by kernel_rfl
theorem e4 : c4 = .ret := by kernel_rfl
theorem body : Try.f30.body = some c0 := by kernel_rfl
section
variable {base : Nat} {W0 : World} {β0 : Bt}
def J0  (y8 : Bool) : Option (Bool) :=
  some y8
theorem J0_snd   {y8 : Bool} {S : HS} {p : Bool} {g0 g1 g2 g3 g4 g5 g6 g7 : HV} (h : J0  y8 = some p) : HRun Try.prog base W0 β0 30 none [.inRegion r3 [6], .code c4] ⟨[g0, g1, g2, g3, g4, g5, g6, g7, (.bool y8)], []⟩ S (fun v S1 => v = (.bool p) ∧ S1 = S) := by
  unfold J0 at h
  refine q_op (dst := some 2) rfl (fun _ ho => ok_assign ho (.tmp rfl)) ?_
  refine hr_region_end ?_
  try dsimp only [HAct.put, List.set_cons_zero, List.set_cons_succ]
  cases h
  exact q_ret e4 at_.at_ rfl (res1 rfl rfl) ⟨rfl, rfl⟩
def f (x0 : Int) : Option (Bool) :=
  (if x0 ≥ 48 then
  J0 (decide (x0 ≤ 57)) else
  J0 false)
theorem snd {x0 : Int} {S : HS}  {p : Bool} (h : f x0 = some p) : HCall Try.prog base W0 β0 30 [(.int .u8 x0)] S (fun v S1 => v = (.bool p) ∧ S1 = S) := by
  unfold f at h
  refine HCall.of_run at_.at_ body ?_
  show HRun Try.prog base W0 β0 30 none [.code c0] ⟨[(.int .u8 x0), .tup [], .tup [], .tup [], .tup [], .tup [], .tup [], .tup [], .tup []], []⟩ S _
  refine q_seq e0 ?_
  refine q_region e1 rfl ?_
  refine q_op (dst := some 2) rfl (fun _ ho => ok_assign ho (.bool _)) ?_
  refine hr_region_end ?_
  try dsimp only [HAct.put, List.set_cons_zero, List.set_cons_succ]
  refine q_seq e2 ?_
  refine q_region e3 rfl ?_
  refine q_op (dst := some 3) rfl (fun _ ho => ok_move ho (.tmp rfl)) ?_
  refine q_op (dst := some 4) rfl (fun _ ho => ok_ibin ho (.tmp rfl) (.int _ _) rfl) ?_
  refine q_op (dst := some 5) rfl (fun _ ho => ok_move ho (.tmp rfl)) ?_
  rcases ifc h with ⟨hc1, h⟩ | ⟨hc1, h⟩
  · refine q_op_g (t := 5) (dst := some 6) rfl rfl rfl (decide_eq_true hc1) (fun _ ho => ok_move ho (.tmp rfl)) ?_
    try dsimp only [HAct.put, List.set_cons_zero, List.set_cons_succ]
    refine q_op_g (t := 5) (dst := some 7) rfl rfl rfl (decide_eq_true hc1) (fun _ ho => ok_ibin ho (.tmp rfl) (.int _ _) rfl) ?_
    refine q_op (dst := some 8) rfl (fun _ ho => ok_pick_tt ho (.tmp rfl) (decide_eq_true hc1) (.tmp rfl)) ?_
    try dsimp only [HAct.put, List.set_cons_zero, List.set_cons_succ]
    exact J0_snd  h
  · refine q_skip (dst := some 6) (t := 5) rfl rfl rfl (decide_eq_false hc1) ?_
    try dsimp only [HAct.put, List.set_cons_zero, List.set_cons_succ]
    refine q_skip (dst := some 7) (t := 5) rfl rfl rfl (decide_eq_false hc1) ?_
    refine q_op (dst := some 8) rfl (fun _ ho => ok_pick_ff ho (.tmp rfl) (decide_eq_false hc1) (.bool _)) ?_
    try dsimp only [HAct.put, List.set_cons_zero, List.set_cons_succ]
    exact J0_snd  h
end
end rollcallref03_Digit
namespace rollcallref03_Nick
abbrev id : Nat := 12
theorem at_ : FnAt Try.prog 12 Try.f12 := ⟨Try.func12, by kernel_rfl⟩
noncomputable def c0 : Code := (Try.f12.body).getD .skip
noncomputable def c1 : Code := match c0 with | .seq x _ => x | _ => .skip
noncomputable def c2 : Code := match c0 with | .seq _ x => x | _ => .skip
noncomputable def c3 : Code := match c2 with | .seq x _ => x | _ => .skip
noncomputable def c4 : Code := match c3 with | .seq x _ => x | _ => .skip
noncomputable def c5 : Code := match c3 with | .seq _ x => x | _ => .skip
noncomputable def c6 : Code := match c5 with | .block _ x => x | _ => .skip
noncomputable def c7 : Code := match c6 with | .loop x => x | _ => .skip
noncomputable def c8 : Code := match c7 with | .seq x _ => x | _ => .skip
noncomputable def c9 : Code := match c8 with | .seq x _ => x | _ => .skip
noncomputable def c10 : Code := match c8 with | .seq _ x => x | _ => .skip
noncomputable def c11 : Code := match c10 with | .cond _ x _ => x | _ => .skip
noncomputable def c12 : Code := match c10 with | .cond _ _ x => x | _ => .skip
noncomputable def c13 : Code := match c7 with | .seq _ x => x | _ => .skip
noncomputable def c14 : Code := match c13 with | .seq x _ => x | _ => .skip
noncomputable def c15 : Code := match c14 with | .block _ x => x | _ => .skip
noncomputable def c16 : Code := match c15 with | .seq x _ => x | _ => .skip
noncomputable def c17 : Code := match c15 with | .seq _ x => x | _ => .skip
noncomputable def c18 : Code := match c17 with | .seq x _ => x | _ => .skip
noncomputable def c19 : Code := match c17 with | .seq _ x => x | _ => .skip
noncomputable def c20 : Code := match c19 with | .cond _ x _ => x | _ => .skip
noncomputable def c21 : Code := match c20 with | .seq x _ => x | _ => .skip
noncomputable def c22 : Code := match c20 with | .seq _ x => x | _ => .skip
noncomputable def c23 : Code := match c19 with | .cond _ _ x => x | _ => .skip
noncomputable def c24 : Code := match c13 with | .seq _ x => x | _ => .skip
noncomputable def c25 : Code := match c2 with | .seq _ x => x | _ => .skip
noncomputable def c26 : Code := match c25 with | .seq x _ => x | _ => .skip
noncomputable def c27 : Code := match c25 with | .seq _ x => x | _ => .skip
theorem e0 : c0 = .seq c1 c2 := by kernel_rfl
noncomputable def r1 : Array Oper := match c1 with | .region _ x _ => x | _ => #[]
theorem e1 : c1 = .region 0 r1 false := by kernel_rfl
theorem e2 : c2 = .seq c3 c25 := by kernel_rfl
theorem e3 : c3 = .seq c4 c5 := by kernel_rfl
noncomputable def r4 : Array Oper := match c4 with | .region _ x _ => x | _ => #[]
theorem e4 : c4 = .region 1 r4 false := by kernel_rfl
theorem e5 : c5 = .block 0 c6 := by kernel_rfl
theorem e6 : c6 = .loop c7 := by kernel_rfl
theorem e7 : c7 = .seq c8 c13 := by kernel_rfl
theorem e8 : c8 = .seq c9 c10 := by kernel_rfl
noncomputable def r9 : Array Oper := match c9 with | .region _ x _ => x | _ => #[]
theorem e9 : c9 = .region 2 r9 false := by kernel_rfl
theorem e10 : c10 = .cond (.tmp 8) c11 c12 := by kernel_rfl
theorem e11 : c11 = .skip := by kernel_rfl
theorem e12 : c12 = .exit 0 := by kernel_rfl
theorem e13 : c13 = .seq c14 c24 := by kernel_rfl
theorem e14 : c14 = .block 1 c15 := by kernel_rfl
theorem e15 : c15 = .seq c16 c17 := by kernel_rfl
noncomputable def r16 : Array Oper := match c16 with | .region _ x _ => x | _ => #[]
theorem e16 : c16 = .region 4 r16 false := by kernel_rfl
theorem e17 : c17 = .seq c18 c19 := by kernel_rfl
noncomputable def r18 : Array Oper := match c18 with | .region _ x _ => x | _ => #[]
theorem e18 : c18 = .region 5 r18 false := by kernel_rfl
theorem e19 : c19 = .cond (.tmp 34) c20 c23 := by kernel_rfl
theorem e20 : c20 = .seq c21 c22 := by kernel_rfl
noncomputable def r21 : Array Oper := match c21 with | .region _ x _ => x | _ => #[]
theorem e21 : c21 = .region 6 r21 false := by kernel_rfl
theorem e22 : c22 = .ret := by kernel_rfl
theorem e23 : c23 = .skip := by kernel_rfl
noncomputable def r24 : Array Oper := match c24 with | .region _ x _ => x | _ => #[]
theorem e24 : c24 = .region 3 r24 false := by kernel_rfl
theorem e25 : c25 = .seq c26 c27 := by kernel_rfl
noncomputable def r26 : Array Oper := match c26 with | .region _ x _ => x | _ => #[]
theorem e26 : c26 = .region 7 r26 false := by kernel_rfl
theorem e27 : c27 = .ret := by kernel_rfl
theorem body : Try.f12.body = some c0 := by kernel_rfl
section
variable {base : Nat} {W0 : World} {β0 : Bt}
def J3 (k : Nat) (rec0 : (List UInt8) → Int → Option (Bool)) (y0 : (List UInt8)) (y3 : Int) (y34 : Bool) : Option (Bool) :=
  (if y34 = true then
  some false else
  rec0 y0 (w64 (y3 + 1)))
theorem J3_snd {k : Nat} {rec0 : (List UInt8) → Int → Option (Bool)} (hrec0 : ∀ ⦃y0 : (List UInt8)⦄ ⦃y3 : Int⦄ ⦃S : HS⦄ ⦃p : Bool⦄ ⦃g1 g2 g4 g5 g6 g7 g8 g9 g10 g11 g12 g13 g14 g15 g16 g17 g18 g19 g20 g21 g22 g23 g24 g25 g26 g27 g28 g29 g30 g31 g32 g33 g34 g35 g36 g37 g38 g39 g40 g41 g42 : HV⦄, rec0 y0 y3 = some p → HRun Try.prog base W0 β0 12 none [.inLoop c7, .inBlock 0, .code c25] ⟨[(.str y0), g1, g2, (.int .i64 y3), g4, g5, g6, g7, g8, g9, g10, g11, g12, g13, g14, g15, g16, g17, g18, g19, g20, g21, g22, g23, g24, g25, g26, g27, g28, g29, g30, g31, g32, g33, g34, g35, g36, g37, g38, g39, g40, g41, g42], []⟩ S (fun v S1 => v = (.bool p) ∧ S1 = S)) {y0 : (List UInt8)} {y3 : Int} {y34 : Bool} {S : HS} {p : Bool} {g1 g2 g4 g5 g6 g7 g8 g9 g10 g11 g12 g13 g14 g15 g16 g17 g18 g19 g20 g21 g22 g23 g24 g25 g26 g27 g28 g29 g30 g31 g32 g33 g35 g36 g37 g38 g39 g40 g41 g42 : HV} (h : J3 k rec0 y0 y3 y34 = some p) : HRun Try.prog base W0 β0 12 none [.code c19, .inBlock 1, .code c24, .inLoop c7, .inBlock 0, .code c25] ⟨[(.str y0), g1, g2, (.int .i64 y3), g4, g5, g6, g7, g8, g9, g10, g11, g12, g13, g14, g15, g16, g17, g18, g19, g20, g21, g22, g23, g24, g25, g26, g27, g28, g29, g30, g31, g32, g33, (.bool y34), g35, g36, g37, g38, g39, g40, g41, g42], []⟩ S (fun v S1 => v = (.bool p) ∧ S1 = S) := by
  unfold J3 at h
  rcases ifc h with ⟨hc9, h⟩ | ⟨hc9, h⟩
  · refine q_cond_t e19 (.tmp rfl) hc9 ?_
    refine q_seq e20 ?_
    refine q_region e21 rfl ?_
    refine q_op (dst := some 2) rfl (fun _ ho => ok_assign ho (.bool _)) ?_
    refine hr_region_end ?_
    try dsimp only [HAct.put, List.set_cons_zero, List.set_cons_succ]
    cases h
    exact q_ret e22 at_.at_ rfl (res1 rfl rfl) ⟨rfl, rfl⟩
  · refine q_cond_f e19 (.tmp rfl) (bfalse hc9) ?_
    refine q_skipc e23 ?_
    refine hr_inBlock ?_
    refine q_region e24 rfl ?_
    refine q_op (dst := some 9) rfl (fun _ ho => ok_move ho (.tmp rfl)) ?_
    refine q_op (dst := some 10) rfl (fun _ ho => ok_ibin ho (.tmp rfl) (.int _ _) rfl) ?_
    refine q_op (dst := some 3) rfl (fun _ ho => ok_assign ho (.tmp rfl)) ?_
    refine hr_region_end ?_
    try dsimp only [HAct.put, List.set_cons_zero, List.set_cons_succ]
    try dsimp only [HAct.put, List.set_cons_zero, List.set_cons_succ]
    exact hrec0 h
def J2 (k : Nat) (rec0 : (List UInt8) → Int → Option (Bool)) (y0 : (List UInt8)) (y3 : Int) (y22 : Bool) (y33 : Bool) : Option (Bool) :=
  (if y22 = true then
  J3 k rec0 y0 y3 y33 else
  J3 k rec0 y0 y3 false)
theorem J2_snd {k : Nat} {rec0 : (List UInt8) → Int → Option (Bool)} (hrec0 : ∀ ⦃y0 : (List UInt8)⦄ ⦃y3 : Int⦄ ⦃S : HS⦄ ⦃p : Bool⦄ ⦃g1 g2 g4 g5 g6 g7 g8 g9 g10 g11 g12 g13 g14 g15 g16 g17 g18 g19 g20 g21 g22 g23 g24 g25 g26 g27 g28 g29 g30 g31 g32 g33 g34 g35 g36 g37 g38 g39 g40 g41 g42 : HV⦄, rec0 y0 y3 = some p → HRun Try.prog base W0 β0 12 none [.inLoop c7, .inBlock 0, .code c25] ⟨[(.str y0), g1, g2, (.int .i64 y3), g4, g5, g6, g7, g8, g9, g10, g11, g12, g13, g14, g15, g16, g17, g18, g19, g20, g21, g22, g23, g24, g25, g26, g27, g28, g29, g30, g31, g32, g33, g34, g35, g36, g37, g38, g39, g40, g41, g42], []⟩ S (fun v S1 => v = (.bool p) ∧ S1 = S)) {y0 : (List UInt8)} {y3 : Int} {y22 : Bool} {y33 : Bool} {S : HS} {p : Bool} {g1 g2 g4 g5 g6 g7 g8 g9 g10 g11 g12 g13 g14 g15 g16 g17 g18 g19 g20 g21 g23 g24 g25 g26 g27 g28 g29 g30 g31 g32 g34 g35 g36 g37 g38 g39 g40 g41 g42 : HV} (h : J2 k rec0 y0 y3 y22 y33 = some p) : HRun Try.prog base W0 β0 12 none [.inRegion r18 [20], .code c19, .inBlock 1, .code c24, .inLoop c7, .inBlock 0, .code c25] ⟨[(.str y0), g1, g2, (.int .i64 y3), g4, g5, g6, g7, g8, g9, g10, g11, g12, g13, g14, g15, g16, g17, g18, g19, g20, g21, (.bool y22), g23, g24, g25, g26, g27, g28, g29, g30, g31, g32, (.bool y33), g34, g35, g36, g37, g38, g39, g40, g41, g42], []⟩ S (fun v S1 => v = (.bool p) ∧ S1 = S) := by
  unfold J2 at h
  rcases ifc h with ⟨hc8, h⟩ | ⟨hc8, h⟩
  · refine q_op (dst := some 34) rfl (fun _ ho => ok_pick_tt ho (.tmp rfl) hc8 (.tmp rfl)) ?_
    refine hr_region_end ?_
    try dsimp only [HAct.put, List.set_cons_zero, List.set_cons_succ]
    try dsimp only [HAct.put, List.set_cons_zero, List.set_cons_succ]
    exact J3_snd hrec0 h
  · refine q_op (dst := some 34) rfl (fun _ ho => ok_pick_ff ho (.tmp rfl) (bfalse hc8) (.bool _)) ?_
    refine hr_region_end ?_
    try dsimp only [HAct.put, List.set_cons_zero, List.set_cons_succ]
    try dsimp only [HAct.put, List.set_cons_zero, List.set_cons_succ]
    exact J3_snd hrec0 h
def J4 (k : Nat) (rec0 : (List UInt8) → Int → Option (Bool)) (y0 : (List UInt8)) (y3 : Int) (y22 : Bool) (y25 : Bool) (y32 : Bool) : Option (Bool) :=
  (if y22 = true then
  (if y25 = true then
  J2 k rec0 y0 y3 y22 true else
  J2 k rec0 y0 y3 y22 y32) else
  J3 k rec0 y0 y3 false)
theorem J4_snd {k : Nat} {rec0 : (List UInt8) → Int → Option (Bool)} (hrec0 : ∀ ⦃y0 : (List UInt8)⦄ ⦃y3 : Int⦄ ⦃S : HS⦄ ⦃p : Bool⦄ ⦃g1 g2 g4 g5 g6 g7 g8 g9 g10 g11 g12 g13 g14 g15 g16 g17 g18 g19 g20 g21 g22 g23 g24 g25 g26 g27 g28 g29 g30 g31 g32 g33 g34 g35 g36 g37 g38 g39 g40 g41 g42 : HV⦄, rec0 y0 y3 = some p → HRun Try.prog base W0 β0 12 none [.inLoop c7, .inBlock 0, .code c25] ⟨[(.str y0), g1, g2, (.int .i64 y3), g4, g5, g6, g7, g8, g9, g10, g11, g12, g13, g14, g15, g16, g17, g18, g19, g20, g21, g22, g23, g24, g25, g26, g27, g28, g29, g30, g31, g32, g33, g34, g35, g36, g37, g38, g39, g40, g41, g42], []⟩ S (fun v S1 => v = (.bool p) ∧ S1 = S)) {y0 : (List UInt8)} {y3 : Int} {y22 : Bool} {y25 : Bool} {y32 : Bool} {S : HS} {p : Bool} {g1 g2 g4 g5 g6 g7 g8 g9 g10 g11 g12 g13 g14 g15 g16 g17 g18 g19 g20 g21 g23 g24 g26 g27 g28 g29 g30 g31 g33 g34 g35 g36 g37 g38 g39 g40 g41 g42 : HV} (h : J4 k rec0 y0 y3 y22 y25 y32 = some p) : HRun Try.prog base W0 β0 12 none [.inRegion r18 [19, 20], .code c19, .inBlock 1, .code c24, .inLoop c7, .inBlock 0, .code c25] ⟨[(.str y0), g1, g2, (.int .i64 y3), g4, g5, g6, g7, g8, g9, g10, g11, g12, g13, g14, g15, g16, g17, g18, g19, g20, g21, (.bool y22), g23, g24, (.bool y25), g26, g27, g28, g29, g30, g31, (.bool y32), g33, g34, g35, g36, g37, g38, g39, g40, g41, g42], []⟩ S (fun v S1 => v = (.bool p) ∧ S1 = S) := by
  unfold J4 at h
  rcases ifc h with ⟨hc12, h⟩ | ⟨hc12, h⟩
  · rcases ifc h with ⟨hc13, h⟩ | ⟨hc13, h⟩
    · refine q_op_g (t := 22) (dst := some 33) rfl rfl rfl hc12 (fun _ ho => ok_pick_tt ho (.tmp rfl) hc13 (.bool _)) ?_
      try dsimp only [HAct.put, List.set_cons_zero, List.set_cons_succ]
      try dsimp only [HAct.put, List.set_cons_zero, List.set_cons_succ]
      exact J2_snd hrec0 h
    · refine q_op_g (t := 22) (dst := some 33) rfl rfl rfl hc12 (fun _ ho => ok_pick_ff ho (.tmp rfl) (bfalse hc13) (.tmp rfl)) ?_
      try dsimp only [HAct.put, List.set_cons_zero, List.set_cons_succ]
      try dsimp only [HAct.put, List.set_cons_zero, List.set_cons_succ]
      exact J2_snd hrec0 h
  · refine q_skip (dst := some 33) (t := 22) rfl rfl rfl (bfalse hc12) ?_
    try dsimp only [HAct.put, List.set_cons_zero, List.set_cons_succ]
    refine q_op (dst := some 34) rfl (fun _ ho => ok_pick_ff ho (.tmp rfl) (bfalse hc12) (.bool _)) ?_
    refine hr_region_end ?_
    try dsimp only [HAct.put, List.set_cons_zero, List.set_cons_succ]
    try dsimp only [HAct.put, List.set_cons_zero, List.set_cons_succ]
    exact J3_snd hrec0 h
def J1 (k : Nat) (rec0 : (List UInt8) → Int → Option (Bool)) (y0 : (List UInt8)) (y3 : Int) (y4 : Int) (y21 : Bool) : Option (Bool) :=
  (if y21 = true then
  (if y3 = 0 then
  J2 k rec0 y0 y3 y21 true else
  (Option.bind (rollcallref03_Digit.f y4) fun p10 =>
  (if (!p10) = true then
  J4 k rec0 y0 y3 y21 (decide (y3 = 0)) (!decide (y4 = 45)) else
  J4 k rec0 y0 y3 y21 (decide (y3 = 0)) false))) else
  J3 k rec0 y0 y3 false)
theorem J1_snd {k : Nat} {rec0 : (List UInt8) → Int → Option (Bool)} (hrec0 : ∀ ⦃y0 : (List UInt8)⦄ ⦃y3 : Int⦄ ⦃S : HS⦄ ⦃p : Bool⦄ ⦃g1 g2 g4 g5 g6 g7 g8 g9 g10 g11 g12 g13 g14 g15 g16 g17 g18 g19 g20 g21 g22 g23 g24 g25 g26 g27 g28 g29 g30 g31 g32 g33 g34 g35 g36 g37 g38 g39 g40 g41 g42 : HV⦄, rec0 y0 y3 = some p → HRun Try.prog base W0 β0 12 none [.inLoop c7, .inBlock 0, .code c25] ⟨[(.str y0), g1, g2, (.int .i64 y3), g4, g5, g6, g7, g8, g9, g10, g11, g12, g13, g14, g15, g16, g17, g18, g19, g20, g21, g22, g23, g24, g25, g26, g27, g28, g29, g30, g31, g32, g33, g34, g35, g36, g37, g38, g39, g40, g41, g42], []⟩ S (fun v S1 => v = (.bool p) ∧ S1 = S)) {y0 : (List UInt8)} {y3 : Int} {y4 : Int} {y21 : Bool} {S : HS} {p : Bool} {g1 g2 g5 g6 g7 g8 g9 g10 g11 g12 g13 g14 g15 g16 g17 g18 g19 g20 g22 g23 g24 g25 g26 g27 g28 g29 g30 g31 g32 g33 g34 g35 g36 g37 g38 g39 g40 g41 g42 : HV} (h : J1 k rec0 y0 y3 y4 y21 = some p) : HRun Try.prog base W0 β0 12 none [.inRegion r18 [8, 9, 10, 11, 12, 13, 14, 15, 16, 17, 18, 19, 20], .code c19, .inBlock 1, .code c24, .inLoop c7, .inBlock 0, .code c25] ⟨[(.str y0), g1, g2, (.int .i64 y3), (.int .u8 y4), g5, g6, g7, g8, g9, g10, g11, g12, g13, g14, g15, g16, g17, g18, g19, g20, (.bool y21), g22, g23, g24, g25, g26, g27, g28, g29, g30, g31, g32, g33, g34, g35, g36, g37, g38, g39, g40, g41, g42], []⟩ S (fun v S1 => v = (.bool p) ∧ S1 = S) := by
  unfold J1 at h
  refine q_op (dst := some 22) rfl (fun _ ho => ok_move ho (.tmp rfl)) ?_
  rcases ifc h with ⟨hc6, h⟩ | ⟨hc6, h⟩
  · refine q_op_g (t := 22) (dst := some 23) rfl rfl rfl hc6 (fun _ ho => ok_move ho (.tmp rfl)) ?_
    refine q_op_g (t := 22) (dst := some 24) rfl rfl rfl hc6 (fun _ ho => ok_ibin ho (.tmp rfl) (.int _ _) rfl) ?_
    refine q_op_g (t := 22) (dst := some 25) rfl rfl rfl hc6 (fun _ ho => ok_move ho (.tmp rfl)) ?_
    try dsimp only [HAct.put, List.set_cons_zero, List.set_cons_succ]
    rcases ifc h with ⟨hc7, h⟩ | ⟨hc7, h⟩
    · refine q_skip (dst := some 26) (t := 25) rfl rfl rfl (decide_eq_true hc7) ?_
      refine q_skip (dst := some 27) (t := 25) rfl rfl rfl (decide_eq_true hc7) ?_
      refine q_skip (dst := some 28) (t := 25) rfl rfl rfl (decide_eq_true hc7) ?_
      refine q_skip (dst := some 29) (t := 25) rfl rfl rfl (decide_eq_true hc7) ?_
      try dsimp only [HAct.put, List.set_cons_zero, List.set_cons_succ]
      refine q_skip_u (dst := some 30) (t := 29) rfl rfl rfl ?_
      refine q_skip_u (dst := some 31) (t := 29) rfl rfl rfl ?_
      refine q_skip (dst := some 32) (t := 25) rfl rfl rfl (decide_eq_true hc7) ?_
      refine q_op_g (t := 22) (dst := some 33) rfl rfl rfl hc6 (fun _ ho => ok_pick_tt ho (.tmp rfl) (decide_eq_true hc7) (.bool _)) ?_
      try dsimp only [HAct.put, List.set_cons_zero, List.set_cons_succ]
      try dsimp only [HAct.put, List.set_cons_zero, List.set_cons_succ]
      exact J2_snd hrec0 h
    · refine q_op_g (t := 25) (dst := some 26) rfl rfl rfl (decide_eq_false hc7) (fun _ ho => ok_move ho (.tmp rfl)) ?_
      obtain ⟨p10, hp10, h⟩ := bindo h
      refine q_call_g (t := 25) (dst := some 27) rfl rfl rfl (decide_eq_false hc7) (.func _) (.cons (.tmp rfl) Evs.nil) (HInv.static rollcallref03_Digit.at_ rollcallref03_Digit.body (rollcallref03_Digit.snd  hp10)) ?_
      rintro _ _ ⟨rfl, rfl⟩
      refine q_op_g (t := 25) (dst := some 28) rfl rfl rfl (decide_eq_false hc7) (fun _ ho => ok_not ho (.tmp rfl)) ?_
      refine q_op_g (t := 25) (dst := some 29) rfl rfl rfl (decide_eq_false hc7) (fun _ ho => ok_move ho (.tmp rfl)) ?_
      try dsimp only [HAct.put, List.set_cons_zero, List.set_cons_succ]
      rcases ifc h with ⟨hc11, h⟩ | ⟨hc11, h⟩
      · refine q_op_g (t := 29) (dst := some 30) rfl rfl rfl hc11 (fun _ ho => ok_move ho (.tmp rfl)) ?_
        refine q_op_g (t := 29) (dst := some 31) rfl rfl rfl hc11 (fun _ ho => ok_ibin ho (.tmp rfl) (.int _ _) rfl) ?_
        refine q_op_g (t := 25) (dst := some 32) rfl rfl rfl (decide_eq_false hc7) (fun _ ho => ok_pick_tt ho (.tmp rfl) hc11 (.tmp rfl)) ?_
        try dsimp only [HAct.put, List.set_cons_zero, List.set_cons_succ]
        exact J4_snd hrec0 h
      · refine q_skip (dst := some 30) (t := 29) rfl rfl rfl (bfalse hc11) ?_
        refine q_skip (dst := some 31) (t := 29) rfl rfl rfl (bfalse hc11) ?_
        refine q_op_g (t := 25) (dst := some 32) rfl rfl rfl (decide_eq_false hc7) (fun _ ho => ok_pick_ff ho (.tmp rfl) (bfalse hc11) (.bool _)) ?_
        try dsimp only [HAct.put, List.set_cons_zero, List.set_cons_succ]
        exact J4_snd hrec0 h
  · refine q_skip (dst := some 23) (t := 22) rfl rfl rfl (bfalse hc6) ?_
    refine q_skip (dst := some 24) (t := 22) rfl rfl rfl (bfalse hc6) ?_
    refine q_skip (dst := some 25) (t := 22) rfl rfl rfl (bfalse hc6) ?_
    try dsimp only [HAct.put, List.set_cons_zero, List.set_cons_succ]
    refine q_skip_u (dst := some 26) (t := 25) rfl rfl rfl ?_
    refine q_skip_u (dst := some 27) (t := 25) rfl rfl rfl ?_
    refine q_skip_u (dst := some 28) (t := 25) rfl rfl rfl ?_
    refine q_skip_u (dst := some 29) (t := 25) rfl rfl rfl ?_
    try dsimp only [HAct.put, List.set_cons_zero, List.set_cons_succ]
    refine q_skip_u (dst := some 30) (t := 29) rfl rfl rfl ?_
    refine q_skip_u (dst := some 31) (t := 29) rfl rfl rfl ?_
    refine q_skip_u (dst := some 32) (t := 25) rfl rfl rfl ?_
    refine q_skip (dst := some 33) (t := 22) rfl rfl rfl (bfalse hc6) ?_
    try dsimp only [HAct.put, List.set_cons_zero, List.set_cons_succ]
    refine q_op (dst := some 34) rfl (fun _ ho => ok_pick_ff ho (.tmp rfl) (bfalse hc6) (.bool _)) ?_
    refine hr_region_end ?_
    try dsimp only [HAct.put, List.set_cons_zero, List.set_cons_succ]
    try dsimp only [HAct.put, List.set_cons_zero, List.set_cons_succ]
    exact J3_snd hrec0 h
def J5 (k : Nat) (y42 : Bool) : Option (Bool) :=
  some y42
theorem J5_snd {k : Nat}  {y42 : Bool} {S : HS} {p : Bool} {g0 g1 g2 g3 g4 g5 g6 g7 g8 g9 g10 g11 g12 g13 g14 g15 g16 g17 g18 g19 g20 g21 g22 g23 g24 g25 g26 g27 g28 g29 g30 g31 g32 g33 g34 g35 g36 g37 g38 g39 g40 g41 : HV} (h : J5 k y42 = some p) : HRun Try.prog base W0 β0 12 none [.inRegion r26 [8], .code c27] ⟨[g0, g1, g2, g3, g4, g5, g6, g7, g8, g9, g10, g11, g12, g13, g14, g15, g16, g17, g18, g19, g20, g21, g22, g23, g24, g25, g26, g27, g28, g29, g30, g31, g32, g33, g34, g35, g36, g37, g38, g39, g40, g41, (.bool y42)], []⟩ S (fun v S1 => v = (.bool p) ∧ S1 = S) := by
  unfold J5 at h
  refine q_op (dst := some 2) rfl (fun _ ho => ok_assign ho (.tmp rfl)) ?_
  refine hr_region_end ?_
  try dsimp only [HAct.put, List.set_cons_zero, List.set_cons_succ]
  cases h
  exact q_ret e27 at_.at_ rfl (res1 rfl rfl) ⟨rfl, rfl⟩
def L0 (k : Nat) : Nat → (List UInt8) → Int → Option (Bool)
  | 0, _, _ => none
  | n + 1, y0, y3 =>
    (if y3 < (List.length y0 : Int) then
    (Option.bind (sat y0 y3) fun p2 =>
    (Option.bind (rollcallref03_Letter.f (UInt8.toNat p2 : Int)) fun p3 =>
    (if (!p3) = true then
    (Option.bind (rollcallref03_Sign.f k (UInt8.toNat p2 : Int)) fun p5 =>
    J1 k (L0 k n) y0 y3 (UInt8.toNat p2 : Int) (!p5)) else
    J1 k (L0 k n) y0 y3 (UInt8.toNat p2 : Int) false))) else
    (if (List.length y0 : Int) ≥ 1 then
    J5 k (decide ((List.length y0 : Int) ≤ 16)) else
    J5 k false))
theorem L0_snd {k : Nat}  : ∀ {n : Nat} ⦃y0 : (List UInt8)⦄ ⦃y3 : Int⦄ ⦃S : HS⦄ ⦃p : Bool⦄ ⦃g1 g2 g4 g5 g6 g7 g8 g9 g10 g11 g12 g13 g14 g15 g16 g17 g18 g19 g20 g21 g22 g23 g24 g25 g26 g27 g28 g29 g30 g31 g32 g33 g34 g35 g36 g37 g38 g39 g40 g41 g42 : HV⦄, L0 k n y0 y3 = some p → HRun Try.prog base W0 β0 12 none [.inLoop c7, .inBlock 0, .code c25] ⟨[(.str y0), g1, g2, (.int .i64 y3), g4, g5, g6, g7, g8, g9, g10, g11, g12, g13, g14, g15, g16, g17, g18, g19, g20, g21, g22, g23, g24, g25, g26, g27, g28, g29, g30, g31, g32, g33, g34, g35, g36, g37, g38, g39, g40, g41, g42], []⟩ S (fun v S1 => v = (.bool p) ∧ S1 = S) := by
  intro n
  induction n with
  | zero => intro _ _ _ _ _ _ _ _ _ _ _ _ _ _ _ _ _ _ _ _ _ _ _ _ _ _ _ _ _ _ _ _ _ _ _ _ _ _ _ _ _ _ _ _ _ h; cases h
  | succ n ih =>
    intro y0 y3 S p g1 g2 g4 g5 g6 g7 g8 g9 g10 g11 g12 g13 g14 g15 g16 g17 g18 g19 g20 g21 g22 g23 g24 g25 g26 g27 g28 g29 g30 g31 g32 g33 g34 g35 g36 g37 g38 g39 g40 g41 g42 h
    simp only [L0] at h
    refine hr_inLoop ?_
    refine q_seq e7 ?_
    refine q_seq e8 ?_
    refine q_region e9 rfl ?_
    refine q_op (dst := some 5) rfl (fun _ ho => ok_move ho (.tmp rfl)) ?_
    refine q_op (dst := some 6) rfl (fun _ ho => ok_move ho (.tmp rfl)) ?_
    refine q_op (dst := some 7) rfl (fun _ ho => ok_len_str ho rfl tu9 (.tmp rfl)) ?_
    refine q_op (dst := some 8) rfl (fun _ ho => ok_ibin ho (.tmp rfl) (.tmp rfl) rfl) ?_
    refine hr_region_end ?_
    try dsimp only [HAct.put, List.set_cons_zero, List.set_cons_succ]
    rcases ifc h with ⟨hc1, h⟩ | ⟨hc1, h⟩
    · refine q_cond_t e10 (.tmp rfl) (decide_eq_true hc1) ?_
      refine q_skipc e11 ?_
      refine q_seq e13 ?_
      refine q_block e14 ?_
      refine q_seq e15 ?_
      refine q_region e16 rfl ?_
      refine q_op (dst := some 11) rfl (fun _ ho => ok_move ho (.tmp rfl)) ?_
      refine q_op (dst := some 12) rfl (fun _ ho => ok_move ho (.tmp rfl)) ?_
      obtain ⟨p2, hp2, h⟩ := bindo h
      refine q_op (dst := some 13) rfl (fun _ ho => ok_index_s ho tu9 (.tmp rfl) (.tmp rfl) hp2) ?_
      refine q_op (dst := some 4) rfl (fun _ ho => ok_assign ho (.tmp rfl)) ?_
      refine hr_region_end ?_
      try dsimp only [HAct.put, List.set_cons_zero, List.set_cons_succ]
      refine q_seq e17 ?_
      refine q_region e18 rfl ?_
      refine q_op (dst := some 14) rfl (fun _ ho => ok_move ho (.tmp rfl)) ?_
      obtain ⟨p3, hp3, h⟩ := bindo h
      refine q_call (dst := some 15) rfl (.func _) (.cons (.tmp rfl) Evs.nil) (HInv.static rollcallref03_Letter.at_ rollcallref03_Letter.body (rollcallref03_Letter.snd  hp3)) ?_
      rintro _ _ ⟨rfl, rfl⟩
      refine q_op (dst := some 16) rfl (fun _ ho => ok_not ho (.tmp rfl)) ?_
      refine q_op (dst := some 17) rfl (fun _ ho => ok_move ho (.tmp rfl)) ?_
      try dsimp only [HAct.put, List.set_cons_zero, List.set_cons_succ]
      rcases ifc h with ⟨hc4, h⟩ | ⟨hc4, h⟩
      · refine q_op_g (t := 17) (dst := some 18) rfl rfl rfl hc4 (fun _ ho => ok_move ho (.tmp rfl)) ?_
        obtain ⟨p5, hp5, h⟩ := bindo h
        refine q_call_g (t := 17) (dst := some 19) rfl rfl rfl hc4 (.func _) (.cons (.tmp rfl) Evs.nil) (HInv.static rollcallref03_Sign.at_ rollcallref03_Sign.body (rollcallref03_Sign.snd  hp5)) ?_
        rintro _ _ ⟨rfl, rfl⟩
        refine q_op_g (t := 17) (dst := some 20) rfl rfl rfl hc4 (fun _ ho => ok_not ho (.tmp rfl)) ?_
        refine q_op (dst := some 21) rfl (fun _ ho => ok_pick_tt ho (.tmp rfl) hc4 (.tmp rfl)) ?_
        try dsimp only [HAct.put, List.set_cons_zero, List.set_cons_succ]
        try dsimp only [HAct.put, List.set_cons_zero, List.set_cons_succ]
        exact J1_snd ih h
      · refine q_skip (dst := some 18) (t := 17) rfl rfl rfl (bfalse hc4) ?_
        refine q_skip (dst := some 19) (t := 17) rfl rfl rfl (bfalse hc4) ?_
        refine q_skip (dst := some 20) (t := 17) rfl rfl rfl (bfalse hc4) ?_
        refine q_op (dst := some 21) rfl (fun _ ho => ok_pick_ff ho (.tmp rfl) (bfalse hc4) (.bool _)) ?_
        try dsimp only [HAct.put, List.set_cons_zero, List.set_cons_succ]
        try dsimp only [HAct.put, List.set_cons_zero, List.set_cons_succ]
        exact J1_snd ih h
    · refine q_cond_f e10 (.tmp rfl) (decide_eq_false hc1) ?_
      refine q_exit e12 rfl ?_
      refine q_seq e25 ?_
      refine q_region e26 rfl ?_
      refine q_op (dst := some 35) rfl (fun _ ho => ok_move ho (.tmp rfl)) ?_
      refine q_op (dst := some 36) rfl (fun _ ho => ok_len_str ho rfl tu9 (.tmp rfl)) ?_
      refine q_op (dst := some 37) rfl (fun _ ho => ok_ibin ho (.tmp rfl) (.int _ _) rfl) ?_
      refine q_op (dst := some 38) rfl (fun _ ho => ok_move ho (.tmp rfl)) ?_
      try dsimp only [HAct.put, List.set_cons_zero, List.set_cons_succ]
      rcases ifc h with ⟨hc14, h⟩ | ⟨hc14, h⟩
      · refine q_op_g (t := 38) (dst := some 39) rfl rfl rfl (decide_eq_true hc14) (fun _ ho => ok_move ho (.tmp rfl)) ?_
        refine q_op_g (t := 38) (dst := some 40) rfl rfl rfl (decide_eq_true hc14) (fun _ ho => ok_len_str ho rfl tu9 (.tmp rfl)) ?_
        refine q_op_g (t := 38) (dst := some 41) rfl rfl rfl (decide_eq_true hc14) (fun _ ho => ok_ibin ho (.tmp rfl) (.int _ _) rfl) ?_
        refine q_op (dst := some 42) rfl (fun _ ho => ok_pick_tt ho (.tmp rfl) (decide_eq_true hc14) (.tmp rfl)) ?_
        try dsimp only [HAct.put, List.set_cons_zero, List.set_cons_succ]
        try dsimp only [HAct.put, List.set_cons_zero, List.set_cons_succ]
        exact J5_snd  h
      · refine q_skip (dst := some 39) (t := 38) rfl rfl rfl (decide_eq_false hc14) ?_
        refine q_skip (dst := some 40) (t := 38) rfl rfl rfl (decide_eq_false hc14) ?_
        refine q_skip (dst := some 41) (t := 38) rfl rfl rfl (decide_eq_false hc14) ?_
        refine q_op (dst := some 42) rfl (fun _ ho => ok_pick_ff ho (.tmp rfl) (decide_eq_false hc14) (.bool _)) ?_
        try dsimp only [HAct.put, List.set_cons_zero, List.set_cons_succ]
        try dsimp only [HAct.put, List.set_cons_zero, List.set_cons_succ]
        exact J5_snd  h
def f (k : Nat) (x0 : (List UInt8)) : Option (Bool) :=
  L0 k k x0 0
theorem snd {k : Nat} {x0 : (List UInt8)} {S : HS}  {p : Bool} (h : f k x0 = some p) : HCall Try.prog base W0 β0 12 [(.str x0)] S (fun v S1 => v = (.bool p) ∧ S1 = S) := by
  unfold f at h
  refine HCall.of_run at_.at_ body ?_
  show HRun Try.prog base W0 β0 12 none [.code c0] ⟨[(.str x0), .tup [], .tup [], .tup [], .tup [], .tup [], .tup [], .tup [], .tup [], .tup [], .tup [], .tup [], .tup [], .tup [], .tup [], .tup [], .tup [], .tup [], .tup [], .tup [], .tup [], .tup [], .tup [], .tup [], .tup [], .tup [], .tup [], .tup [], .tup [], .tup [], .tup [], .tup [], .tup [], .tup [], .tup [], .tup [], .tup [], .tup [], .tup [], .tup [], .tup [], .tup [], .tup []], []⟩ S _
  refine q_seq e0 ?_
  refine q_region e1 rfl ?_
  refine q_op (dst := some 2) rfl (fun _ ho => ok_assign ho (.bool _)) ?_
  refine hr_region_end ?_
  try dsimp only [HAct.put, List.set_cons_zero, List.set_cons_succ]
  refine q_seq e2 ?_
  refine q_seq e3 ?_
  refine q_region e4 rfl ?_
  refine q_op (dst := some 3) rfl (fun _ ho => ok_assign ho (.int _ _)) ?_
  refine hr_region_end ?_
  try dsimp only [HAct.put, List.set_cons_zero, List.set_cons_succ]
  refine q_block e5 ?_
  refine q_loop e6 ?_
  try dsimp only [HAct.put, List.set_cons_zero, List.set_cons_succ]
  exact L0_snd  h
end
end rollcallref03_Nick
namespace rollcallref03_Channel
abbrev id : Nat := 13
theorem at_ : FnAt Try.prog 13 Try.f13 := ⟨Try.func13, by kernel_rfl⟩
noncomputable def c0 : Code := (Try.f13.body).getD .skip
noncomputable def c1 : Code := match c0 with | .seq x _ => x | _ => .skip
noncomputable def c2 : Code := match c0 with | .seq _ x => x | _ => .skip
noncomputable def c3 : Code := match c2 with | .seq x _ => x | _ => .skip
noncomputable def c4 : Code := match c3 with | .seq x _ => x | _ => .skip
noncomputable def c5 : Code := match c3 with | .seq _ x => x | _ => .skip
noncomputable def c6 : Code := match c5 with | .cond _ x _ => x | _ => .skip
noncomputable def c7 : Code := match c6 with | .seq x _ => x | _ => .skip
noncomputable def c8 : Code := match c6 with | .seq _ x => x | _ => .skip
noncomputable def c9 : Code := match c5 with | .cond _ _ x => x | _ => .skip
noncomputable def c10 : Code := match c2 with | .seq _ x => x | _ => .skip
noncomputable def c11 : Code := match c10 with | .seq x _ => x | _ => .skip
noncomputable def c12 : Code := match c11 with | .seq x _ => x | _ => .skip
noncomputable def c13 : Code := match c11 with | .seq _ x => x | _ => .skip
noncomputable def c14 : Code := match c13 with | .block _ x => x | _ => .skip
noncomputable def c15 : Code := match c14 with | .loop x => x | _ => .skip
noncomputable def c16 : Code := match c15 with | .seq x _ => x | _ => .skip
noncomputable def c17 : Code := match c16 with | .seq x _ => x | _ => .skip
noncomputable def c18 : Code := match c16 with | .seq _ x => x | _ => .skip
noncomputable def c19 : Code := match c18 with | .cond _ x _ => x | _ => .skip
noncomputable def c20 : Code := match c18 with | .cond _ _ x => x | _ => .skip
noncomputable def c21 : Code := match c15 with | .seq _ x => x | _ => .skip
noncomputable def c22 : Code := match c21 with | .seq x _ => x | _ => .skip
noncomputable def c23 : Code := match c22 with | .block _ x => x | _ => .skip
noncomputable def c24 : Code := match c23 with | .seq x _ => x | _ => .skip
noncomputable def c25 : Code := match c23 with | .seq _ x => x | _ => .skip
noncomputable def c26 : Code := match c25 with | .seq x _ => x | _ => .skip
noncomputable def c27 : Code := match c25 with | .seq _ x => x | _ => .skip
noncomputable def c28 : Code := match c27 with | .cond _ x _ => x | _ => .skip
noncomputable def c29 : Code := match c28 with | .seq x _ => x | _ => .skip
noncomputable def c30 : Code := match c28 with | .seq _ x => x | _ => .skip
noncomputable def c31 : Code := match c27 with | .cond _ _ x => x | _ => .skip
noncomputable def c32 : Code := match c21 with | .seq _ x => x | _ => .skip
noncomputable def c33 : Code := match c10 with | .seq _ x => x | _ => .skip
noncomputable def c34 : Code := match c33 with | .seq x _ => x | _ => .skip
noncomputable def c35 : Code := match c33 with | .seq _ x => x | _ => .skip
theorem e0 : c0 = .seq c1 c2 := by kernel_rfl
noncomputable def r1 : Array Oper := match c1 with | .region _ x _ => x | _ => #[]
theorem e1 : c1 = .region 0 r1 false := by kernel_rfl
theorem e2 : c2 = .seq c3 c10 := by kernel_rfl
theorem e3 : c3 = .seq c4 c5 := by kernel_rfl
noncomputable def r4 : Array Oper := match c4 with | .region _ x _ => x | _ => #[]
theorem e4 : c4 = .region 1 r4 false := by kernel_rfl
theorem e5 : c5 = .cond (.tmp 17) c6 c9 := by kernel_rfl
theorem e6 : c6 = .seq c7 c8 := by kernel_rfl
noncomputable def r7 : Array Oper := match c7 with | .region _ x _ => x | _ => #[]
theorem e7 : c7 = .region 2 r7 false := by kernel_rfl
theorem e8 : c8 = .ret := by kernel_rfl
theorem e9 : c9 = .skip := by kernel_rfl
theorem e10 : c10 = .seq c11 c33 := by kernel_rfl
theorem e11 : c11 = .seq c12 c13 := by kernel_rfl
noncomputable def r12 : Array Oper := match c12 with | .region _ x _ => x | _ => #[]
theorem e12 : c12 = .region 3 r12 false := by kernel_rfl
theorem e13 : c13 = .block 0 c14 := by kernel_rfl
theorem e14 : c14 = .loop c15 := by kernel_rfl
theorem e15 : c15 = .seq c16 c21 := by kernel_rfl
theorem e16 : c16 = .seq c17 c18 := by kernel_rfl
noncomputable def r17 : Array Oper := match c17 with | .region _ x _ => x | _ => #[]
theorem e17 : c17 = .region 4 r17 false := by kernel_rfl
theorem e18 : c18 = .cond (.tmp 21) c19 c20 := by kernel_rfl
theorem e19 : c19 = .skip := by kernel_rfl
theorem e20 : c20 = .exit 0 := by kernel_rfl
theorem e21 : c21 = .seq c22 c32 := by kernel_rfl
theorem e22 : c22 = .block 1 c23 := by kernel_rfl
theorem e23 : c23 = .seq c24 c25 := by kernel_rfl
noncomputable def r24 : Array Oper := match c24 with | .region _ x _ => x | _ => #[]
theorem e24 : c24 = .region 6 r24 false := by kernel_rfl
theorem e25 : c25 = .seq c26 c27 := by kernel_rfl
noncomputable def r26 : Array Oper := match c26 with | .region _ x _ => x | _ => #[]
theorem e26 : c26 = .region 7 r26 false := by kernel_rfl
theorem e27 : c27 = .cond (.tmp 52) c28 c31 := by kernel_rfl
theorem e28 : c28 = .seq c29 c30 := by kernel_rfl
noncomputable def r29 : Array Oper := match c29 with | .region _ x _ => x | _ => #[]
theorem e29 : c29 = .region 8 r29 false := by kernel_rfl
theorem e30 : c30 = .ret := by kernel_rfl
theorem e31 : c31 = .skip := by kernel_rfl
noncomputable def r32 : Array Oper := match c32 with | .region _ x _ => x | _ => #[]
theorem e32 : c32 = .region 5 r32 false := by kernel_rfl
theorem e33 : c33 = .seq c34 c35 := by kernel_rfl
noncomputable def r34 : Array Oper := match c34 with | .region _ x _ => x | _ => #[]
theorem e34 : c34 = .region 9 r34 false := by kernel_rfl
theorem e35 : c35 = .ret := by kernel_rfl
theorem body : Try.f13.body = some c0 := by kernel_rfl
section
variable {base : Nat} {W0 : World} {β0 : Bt}
def J8 (k : Nat) (rec0 : (List UInt8) → Int → Option (Bool)) (y0 : (List UInt8)) (y3 : Int) (y52 : Bool) : Option (Bool) :=
  (if y52 = true then
  some false else
  rec0 y0 (w64 (y3 + 1)))
theorem J8_snd {k : Nat} {rec0 : (List UInt8) → Int → Option (Bool)} (hrec0 : ∀ ⦃y0 : (List UInt8)⦄ ⦃y3 : Int⦄ ⦃S : HS⦄ ⦃p : Bool⦄ ⦃g1 g2 g4 g5 g6 g7 g8 g9 g10 g11 g12 g13 g14 g15 g16 g17 g18 g19 g20 g21 g22 g23 g24 g25 g26 g27 g28 g29 g30 g31 g32 g33 g34 g35 g36 g37 g38 g39 g40 g41 g42 g43 g44 g45 g46 g47 g48 g49 g50 g51 g52 : HV⦄, rec0 y0 y3 = some p → HRun Try.prog base W0 β0 13 none [.inLoop c15, .inBlock 0, .code c33] ⟨[(.str y0), g1, g2, (.int .i64 y3), g4, g5, g6, g7, g8, g9, g10, g11, g12, g13, g14, g15, g16, g17, g18, g19, g20, g21, g22, g23, g24, g25, g26, g27, g28, g29, g30, g31, g32, g33, g34, g35, g36, g37, g38, g39, g40, g41, g42, g43, g44, g45, g46, g47, g48, g49, g50, g51, g52], []⟩ S (fun v S1 => v = (.bool p) ∧ S1 = S)) {y0 : (List UInt8)} {y3 : Int} {y52 : Bool} {S : HS} {p : Bool} {g1 g2 g4 g5 g6 g7 g8 g9 g10 g11 g12 g13 g14 g15 g16 g17 g18 g19 g20 g21 g22 g23 g24 g25 g26 g27 g28 g29 g30 g31 g32 g33 g34 g35 g36 g37 g38 g39 g40 g41 g42 g43 g44 g45 g46 g47 g48 g49 g50 g51 : HV} (h : J8 k rec0 y0 y3 y52 = some p) : HRun Try.prog base W0 β0 13 none [.code c27, .inBlock 1, .code c32, .inLoop c15, .inBlock 0, .code c33] ⟨[(.str y0), g1, g2, (.int .i64 y3), g4, g5, g6, g7, g8, g9, g10, g11, g12, g13, g14, g15, g16, g17, g18, g19, g20, g21, g22, g23, g24, g25, g26, g27, g28, g29, g30, g31, g32, g33, g34, g35, g36, g37, g38, g39, g40, g41, g42, g43, g44, g45, g46, g47, g48, g49, g50, g51, (.bool y52)], []⟩ S (fun v S1 => v = (.bool p) ∧ S1 = S) := by
  unfold J8 at h
  rcases ifc h with ⟨hc12, h⟩ | ⟨hc12, h⟩
  · refine q_cond_t e27 (.tmp rfl) hc12 ?_
    refine q_seq e28 ?_
    refine q_region e29 rfl ?_
    refine q_op (dst := some 2) rfl (fun _ ho => ok_assign ho (.bool _)) ?_
    refine hr_region_end ?_
    try dsimp only [HAct.put, List.set_cons_zero, List.set_cons_succ]
    cases h
    exact q_ret e30 at_.at_ rfl (res1 rfl rfl) ⟨rfl, rfl⟩
  · refine q_cond_f e27 (.tmp rfl) (bfalse hc12) ?_
    refine q_skipc e31 ?_
    refine hr_inBlock ?_
    refine q_region e32 rfl ?_
    refine q_op (dst := some 22) rfl (fun _ ho => ok_move ho (.tmp rfl)) ?_
    refine q_op (dst := some 23) rfl (fun _ ho => ok_ibin ho (.tmp rfl) (.int _ _) rfl) ?_
    refine q_op (dst := some 3) rfl (fun _ ho => ok_assign ho (.tmp rfl)) ?_
    refine hr_region_end ?_
    try dsimp only [HAct.put, List.set_cons_zero, List.set_cons_succ]
    try dsimp only [HAct.put, List.set_cons_zero, List.set_cons_succ]
    exact hrec0 h
def J7 (k : Nat) (rec0 : (List UInt8) → Int → Option (Bool)) (y0 : (List UInt8)) (y3 : Int) (y4 : Int) (y48 : Bool) : Option (Bool) :=
  (if y48 = true then
  J8 k rec0 y0 y3 true else
  J8 k rec0 y0 y3 (decide (y4 = 58)))
theorem J7_snd {k : Nat} {rec0 : (List UInt8) → Int → Option (Bool)} (hrec0 : ∀ ⦃y0 : (List UInt8)⦄ ⦃y3 : Int⦄ ⦃S : HS⦄ ⦃p : Bool⦄ ⦃g1 g2 g4 g5 g6 g7 g8 g9 g10 g11 g12 g13 g14 g15 g16 g17 g18 g19 g20 g21 g22 g23 g24 g25 g26 g27 g28 g29 g30 g31 g32 g33 g34 g35 g36 g37 g38 g39 g40 g41 g42 g43 g44 g45 g46 g47 g48 g49 g50 g51 g52 : HV⦄, rec0 y0 y3 = some p → HRun Try.prog base W0 β0 13 none [.inLoop c15, .inBlock 0, .code c33] ⟨[(.str y0), g1, g2, (.int .i64 y3), g4, g5, g6, g7, g8, g9, g10, g11, g12, g13, g14, g15, g16, g17, g18, g19, g20, g21, g22, g23, g24, g25, g26, g27, g28, g29, g30, g31, g32, g33, g34, g35, g36, g37, g38, g39, g40, g41, g42, g43, g44, g45, g46, g47, g48, g49, g50, g51, g52], []⟩ S (fun v S1 => v = (.bool p) ∧ S1 = S)) {y0 : (List UInt8)} {y3 : Int} {y4 : Int} {y48 : Bool} {S : HS} {p : Bool} {g1 g2 g5 g6 g7 g8 g9 g10 g11 g12 g13 g14 g15 g16 g17 g18 g19 g20 g21 g22 g23 g24 g25 g26 g27 g28 g29 g30 g31 g32 g33 g34 g35 g36 g37 g38 g39 g40 g41 g42 g43 g44 g45 g46 g47 g49 g50 g51 g52 : HV} (h : J7 k rec0 y0 y3 y4 y48 = some p) : HRun Try.prog base W0 β0 13 none [.inRegion r26 [22, 23, 24, 25], .code c27, .inBlock 1, .code c32, .inLoop c15, .inBlock 0, .code c33] ⟨[(.str y0), g1, g2, (.int .i64 y3), (.int .u8 y4), g5, g6, g7, g8, g9, g10, g11, g12, g13, g14, g15, g16, g17, g18, g19, g20, g21, g22, g23, g24, g25, g26, g27, g28, g29, g30, g31, g32, g33, g34, g35, g36, g37, g38, g39, g40, g41, g42, g43, g44, g45, g46, g47, (.bool y48), g49, g50, g51, g52], []⟩ S (fun v S1 => v = (.bool p) ∧ S1 = S) := by
  unfold J7 at h
  refine q_op (dst := some 49) rfl (fun _ ho => ok_move ho (.tmp rfl)) ?_
  rcases ifc h with ⟨hc11, h⟩ | ⟨hc11, h⟩
  · refine q_skip (dst := some 50) (t := 49) rfl rfl rfl hc11 ?_
    try dsimp only [HAct.put, List.set_cons_zero, List.set_cons_succ]
    refine q_skip (dst := some 51) (t := 49) rfl rfl rfl hc11 ?_
    refine q_op (dst := some 52) rfl (fun _ ho => ok_pick_tt ho (.tmp rfl) hc11 (.bool _)) ?_
    refine hr_region_end ?_
    try dsimp only [HAct.put, List.set_cons_zero, List.set_cons_succ]
    try dsimp only [HAct.put, List.set_cons_zero, List.set_cons_succ]
    exact J8_snd hrec0 h
  · refine q_op_g (t := 49) (dst := some 50) rfl rfl rfl (bfalse hc11) (fun _ ho => ok_move ho (.tmp rfl)) ?_
    try dsimp only [HAct.put, List.set_cons_zero, List.set_cons_succ]
    refine q_op_g (t := 49) (dst := some 51) rfl rfl rfl (bfalse hc11) (fun _ ho => ok_ibin ho (.tmp rfl) (.int _ _) rfl) ?_
    refine q_op (dst := some 52) rfl (fun _ ho => ok_pick_ff ho (.tmp rfl) (bfalse hc11) (.tmp rfl)) ?_
    refine hr_region_end ?_
    try dsimp only [HAct.put, List.set_cons_zero, List.set_cons_succ]
    try dsimp only [HAct.put, List.set_cons_zero, List.set_cons_succ]
    exact J8_snd hrec0 h
def J6 (k : Nat) (rec0 : (List UInt8) → Int → Option (Bool)) (y0 : (List UInt8)) (y3 : Int) (y4 : Int) (y44 : Bool) : Option (Bool) :=
  (if y44 = true then
  J7 k rec0 y0 y3 y4 true else
  J7 k rec0 y0 y3 y4 (decide (y4 = 44)))
theorem J6_snd {k : Nat} {rec0 : (List UInt8) → Int → Option (Bool)} (hrec0 : ∀ ⦃y0 : (List UInt8)⦄ ⦃y3 : Int⦄ ⦃S : HS⦄ ⦃p : Bool⦄ ⦃g1 g2 g4 g5 g6 g7 g8 g9 g10 g11 g12 g13 g14 g15 g16 g17 g18 g19 g20 g21 g22 g23 g24 g25 g26 g27 g28 g29 g30 g31 g32 g33 g34 g35 g36 g37 g38 g39 g40 g41 g42 g43 g44 g45 g46 g47 g48 g49 g50 g51 g52 : HV⦄, rec0 y0 y3 = some p → HRun Try.prog base W0 β0 13 none [.inLoop c15, .inBlock 0, .code c33] ⟨[(.str y0), g1, g2, (.int .i64 y3), g4, g5, g6, g7, g8, g9, g10, g11, g12, g13, g14, g15, g16, g17, g18, g19, g20, g21, g22, g23, g24, g25, g26, g27, g28, g29, g30, g31, g32, g33, g34, g35, g36, g37, g38, g39, g40, g41, g42, g43, g44, g45, g46, g47, g48, g49, g50, g51, g52], []⟩ S (fun v S1 => v = (.bool p) ∧ S1 = S)) {y0 : (List UInt8)} {y3 : Int} {y4 : Int} {y44 : Bool} {S : HS} {p : Bool} {g1 g2 g5 g6 g7 g8 g9 g10 g11 g12 g13 g14 g15 g16 g17 g18 g19 g20 g21 g22 g23 g24 g25 g26 g27 g28 g29 g30 g31 g32 g33 g34 g35 g36 g37 g38 g39 g40 g41 g42 g43 g45 g46 g47 g48 g49 g50 g51 g52 : HV} (h : J6 k rec0 y0 y3 y4 y44 = some p) : HRun Try.prog base W0 β0 13 none [.inRegion r26 [18, 19, 20, 21, 22, 23, 24, 25], .code c27, .inBlock 1, .code c32, .inLoop c15, .inBlock 0, .code c33] ⟨[(.str y0), g1, g2, (.int .i64 y3), (.int .u8 y4), g5, g6, g7, g8, g9, g10, g11, g12, g13, g14, g15, g16, g17, g18, g19, g20, g21, g22, g23, g24, g25, g26, g27, g28, g29, g30, g31, g32, g33, g34, g35, g36, g37, g38, g39, g40, g41, g42, g43, (.bool y44), g45, g46, g47, g48, g49, g50, g51, g52], []⟩ S (fun v S1 => v = (.bool p) ∧ S1 = S) := by
  unfold J6 at h
  refine q_op (dst := some 45) rfl (fun _ ho => ok_move ho (.tmp rfl)) ?_
  rcases ifc h with ⟨hc10, h⟩ | ⟨hc10, h⟩
  · refine q_skip (dst := some 46) (t := 45) rfl rfl rfl hc10 ?_
    try dsimp only [HAct.put, List.set_cons_zero, List.set_cons_succ]
    refine q_skip (dst := some 47) (t := 45) rfl rfl rfl hc10 ?_
    refine q_op (dst := some 48) rfl (fun _ ho => ok_pick_tt ho (.tmp rfl) hc10 (.bool _)) ?_
    try dsimp only [HAct.put, List.set_cons_zero, List.set_cons_succ]
    exact J7_snd hrec0 h
  · refine q_op_g (t := 45) (dst := some 46) rfl rfl rfl (bfalse hc10) (fun _ ho => ok_move ho (.tmp rfl)) ?_
    try dsimp only [HAct.put, List.set_cons_zero, List.set_cons_succ]
    refine q_op_g (t := 45) (dst := some 47) rfl rfl rfl (bfalse hc10) (fun _ ho => ok_ibin ho (.tmp rfl) (.int _ _) rfl) ?_
    refine q_op (dst := some 48) rfl (fun _ ho => ok_pick_ff ho (.tmp rfl) (bfalse hc10) (.tmp rfl)) ?_
    try dsimp only [HAct.put, List.set_cons_zero, List.set_cons_succ]
    exact J7_snd hrec0 h
def J5 (k : Nat) (rec0 : (List UInt8) → Int → Option (Bool)) (y0 : (List UInt8)) (y3 : Int) (y4 : Int) (y40 : Bool) : Option (Bool) :=
  (if y40 = true then
  J6 k rec0 y0 y3 y4 true else
  J6 k rec0 y0 y3 y4 (decide (y4 = 32)))
theorem J5_snd {k : Nat} {rec0 : (List UInt8) → Int → Option (Bool)} (hrec0 : ∀ ⦃y0 : (List UInt8)⦄ ⦃y3 : Int⦄ ⦃S : HS⦄ ⦃p : Bool⦄ ⦃g1 g2 g4 g5 g6 g7 g8 g9 g10 g11 g12 g13 g14 g15 g16 g17 g18 g19 g20 g21 g22 g23 g24 g25 g26 g27 g28 g29 g30 g31 g32 g33 g34 g35 g36 g37 g38 g39 g40 g41 g42 g43 g44 g45 g46 g47 g48 g49 g50 g51 g52 : HV⦄, rec0 y0 y3 = some p → HRun Try.prog base W0 β0 13 none [.inLoop c15, .inBlock 0, .code c33] ⟨[(.str y0), g1, g2, (.int .i64 y3), g4, g5, g6, g7, g8, g9, g10, g11, g12, g13, g14, g15, g16, g17, g18, g19, g20, g21, g22, g23, g24, g25, g26, g27, g28, g29, g30, g31, g32, g33, g34, g35, g36, g37, g38, g39, g40, g41, g42, g43, g44, g45, g46, g47, g48, g49, g50, g51, g52], []⟩ S (fun v S1 => v = (.bool p) ∧ S1 = S)) {y0 : (List UInt8)} {y3 : Int} {y4 : Int} {y40 : Bool} {S : HS} {p : Bool} {g1 g2 g5 g6 g7 g8 g9 g10 g11 g12 g13 g14 g15 g16 g17 g18 g19 g20 g21 g22 g23 g24 g25 g26 g27 g28 g29 g30 g31 g32 g33 g34 g35 g36 g37 g38 g39 g41 g42 g43 g44 g45 g46 g47 g48 g49 g50 g51 g52 : HV} (h : J5 k rec0 y0 y3 y4 y40 = some p) : HRun Try.prog base W0 β0 13 none [.inRegion r26 [14, 15, 16, 17, 18, 19, 20, 21, 22, 23, 24, 25], .code c27, .inBlock 1, .code c32, .inLoop c15, .inBlock 0, .code c33] ⟨[(.str y0), g1, g2, (.int .i64 y3), (.int .u8 y4), g5, g6, g7, g8, g9, g10, g11, g12, g13, g14, g15, g16, g17, g18, g19, g20, g21, g22, g23, g24, g25, g26, g27, g28, g29, g30, g31, g32, g33, g34, g35, g36, g37, g38, g39, (.bool y40), g41, g42, g43, g44, g45, g46, g47, g48, g49, g50, g51, g52], []⟩ S (fun v S1 => v = (.bool p) ∧ S1 = S) := by
  unfold J5 at h
  refine q_op (dst := some 41) rfl (fun _ ho => ok_move ho (.tmp rfl)) ?_
  rcases ifc h with ⟨hc9, h⟩ | ⟨hc9, h⟩
  · refine q_skip (dst := some 42) (t := 41) rfl rfl rfl hc9 ?_
    try dsimp only [HAct.put, List.set_cons_zero, List.set_cons_succ]
    refine q_skip (dst := some 43) (t := 41) rfl rfl rfl hc9 ?_
    refine q_op (dst := some 44) rfl (fun _ ho => ok_pick_tt ho (.tmp rfl) hc9 (.bool _)) ?_
    try dsimp only [HAct.put, List.set_cons_zero, List.set_cons_succ]
    exact J6_snd hrec0 h
  · refine q_op_g (t := 41) (dst := some 42) rfl rfl rfl (bfalse hc9) (fun _ ho => ok_move ho (.tmp rfl)) ?_
    try dsimp only [HAct.put, List.set_cons_zero, List.set_cons_succ]
    refine q_op_g (t := 41) (dst := some 43) rfl rfl rfl (bfalse hc9) (fun _ ho => ok_ibin ho (.tmp rfl) (.int _ _) rfl) ?_
    refine q_op (dst := some 44) rfl (fun _ ho => ok_pick_ff ho (.tmp rfl) (bfalse hc9) (.tmp rfl)) ?_
    try dsimp only [HAct.put, List.set_cons_zero, List.set_cons_succ]
    exact J6_snd hrec0 h
def J4 (k : Nat) (rec0 : (List UInt8) → Int → Option (Bool)) (y0 : (List UInt8)) (y3 : Int) (y4 : Int) (y36 : Bool) : Option (Bool) :=
  (if y36 = true then
  J5 k rec0 y0 y3 y4 true else
  J5 k rec0 y0 y3 y4 (decide (y4 = 13)))
theorem J4_snd {k : Nat} {rec0 : (List UInt8) → Int → Option (Bool)} (hrec0 : ∀ ⦃y0 : (List UInt8)⦄ ⦃y3 : Int⦄ ⦃S : HS⦄ ⦃p : Bool⦄ ⦃g1 g2 g4 g5 g6 g7 g8 g9 g10 g11 g12 g13 g14 g15 g16 g17 g18 g19 g20 g21 g22 g23 g24 g25 g26 g27 g28 g29 g30 g31 g32 g33 g34 g35 g36 g37 g38 g39 g40 g41 g42 g43 g44 g45 g46 g47 g48 g49 g50 g51 g52 : HV⦄, rec0 y0 y3 = some p → HRun Try.prog base W0 β0 13 none [.inLoop c15, .inBlock 0, .code c33] ⟨[(.str y0), g1, g2, (.int .i64 y3), g4, g5, g6, g7, g8, g9, g10, g11, g12, g13, g14, g15, g16, g17, g18, g19, g20, g21, g22, g23, g24, g25, g26, g27, g28, g29, g30, g31, g32, g33, g34, g35, g36, g37, g38, g39, g40, g41, g42, g43, g44, g45, g46, g47, g48, g49, g50, g51, g52], []⟩ S (fun v S1 => v = (.bool p) ∧ S1 = S)) {y0 : (List UInt8)} {y3 : Int} {y4 : Int} {y36 : Bool} {S : HS} {p : Bool} {g1 g2 g5 g6 g7 g8 g9 g10 g11 g12 g13 g14 g15 g16 g17 g18 g19 g20 g21 g22 g23 g24 g25 g26 g27 g28 g29 g30 g31 g32 g33 g34 g35 g37 g38 g39 g40 g41 g42 g43 g44 g45 g46 g47 g48 g49 g50 g51 g52 : HV} (h : J4 k rec0 y0 y3 y4 y36 = some p) : HRun Try.prog base W0 β0 13 none [.inRegion r26 [10, 11, 12, 13, 14, 15, 16, 17, 18, 19, 20, 21, 22, 23, 24, 25], .code c27, .inBlock 1, .code c32, .inLoop c15, .inBlock 0, .code c33] ⟨[(.str y0), g1, g2, (.int .i64 y3), (.int .u8 y4), g5, g6, g7, g8, g9, g10, g11, g12, g13, g14, g15, g16, g17, g18, g19, g20, g21, g22, g23, g24, g25, g26, g27, g28, g29, g30, g31, g32, g33, g34, g35, (.bool y36), g37, g38, g39, g40, g41, g42, g43, g44, g45, g46, g47, g48, g49, g50, g51, g52], []⟩ S (fun v S1 => v = (.bool p) ∧ S1 = S) := by
  unfold J4 at h
  refine q_op (dst := some 37) rfl (fun _ ho => ok_move ho (.tmp rfl)) ?_
  rcases ifc h with ⟨hc8, h⟩ | ⟨hc8, h⟩
  · refine q_skip (dst := some 38) (t := 37) rfl rfl rfl hc8 ?_
    try dsimp only [HAct.put, List.set_cons_zero, List.set_cons_succ]
    refine q_skip (dst := some 39) (t := 37) rfl rfl rfl hc8 ?_
    refine q_op (dst := some 40) rfl (fun _ ho => ok_pick_tt ho (.tmp rfl) hc8 (.bool _)) ?_
    try dsimp only [HAct.put, List.set_cons_zero, List.set_cons_succ]
    exact J5_snd hrec0 h
  · refine q_op_g (t := 37) (dst := some 38) rfl rfl rfl (bfalse hc8) (fun _ ho => ok_move ho (.tmp rfl)) ?_
    try dsimp only [HAct.put, List.set_cons_zero, List.set_cons_succ]
    refine q_op_g (t := 37) (dst := some 39) rfl rfl rfl (bfalse hc8) (fun _ ho => ok_ibin ho (.tmp rfl) (.int _ _) rfl) ?_
    refine q_op (dst := some 40) rfl (fun _ ho => ok_pick_ff ho (.tmp rfl) (bfalse hc8) (.tmp rfl)) ?_
    try dsimp only [HAct.put, List.set_cons_zero, List.set_cons_succ]
    exact J5_snd hrec0 h
def J3 (k : Nat) (rec0 : (List UInt8) → Int → Option (Bool)) (y0 : (List UInt8)) (y3 : Int) (y4 : Int) (y32 : Bool) : Option (Bool) :=
  (if y32 = true then
  J4 k rec0 y0 y3 y4 true else
  J4 k rec0 y0 y3 y4 (decide (y4 = 10)))
theorem J3_snd {k : Nat} {rec0 : (List UInt8) → Int → Option (Bool)} (hrec0 : ∀ ⦃y0 : (List UInt8)⦄ ⦃y3 : Int⦄ ⦃S : HS⦄ ⦃p : Bool⦄ ⦃g1 g2 g4 g5 g6 g7 g8 g9 g10 g11 g12 g13 g14 g15 g16 g17 g18 g19 g20 g21 g22 g23 g24 g25 g26 g27 g28 g29 g30 g31 g32 g33 g34 g35 g36 g37 g38 g39 g40 g41 g42 g43 g44 g45 g46 g47 g48 g49 g50 g51 g52 : HV⦄, rec0 y0 y3 = some p → HRun Try.prog base W0 β0 13 none [.inLoop c15, .inBlock 0, .code c33] ⟨[(.str y0), g1, g2, (.int .i64 y3), g4, g5, g6, g7, g8, g9, g10, g11, g12, g13, g14, g15, g16, g17, g18, g19, g20, g21, g22, g23, g24, g25, g26, g27, g28, g29, g30, g31, g32, g33, g34, g35, g36, g37, g38, g39, g40, g41, g42, g43, g44, g45, g46, g47, g48, g49, g50, g51, g52], []⟩ S (fun v S1 => v = (.bool p) ∧ S1 = S)) {y0 : (List UInt8)} {y3 : Int} {y4 : Int} {y32 : Bool} {S : HS} {p : Bool} {g1 g2 g5 g6 g7 g8 g9 g10 g11 g12 g13 g14 g15 g16 g17 g18 g19 g20 g21 g22 g23 g24 g25 g26 g27 g28 g29 g30 g31 g33 g34 g35 g36 g37 g38 g39 g40 g41 g42 g43 g44 g45 g46 g47 g48 g49 g50 g51 g52 : HV} (h : J3 k rec0 y0 y3 y4 y32 = some p) : HRun Try.prog base W0 β0 13 none [.inRegion r26 [6, 7, 8, 9, 10, 11, 12, 13, 14, 15, 16, 17, 18, 19, 20, 21, 22, 23, 24, 25], .code c27, .inBlock 1, .code c32, .inLoop c15, .inBlock 0, .code c33] ⟨[(.str y0), g1, g2, (.int .i64 y3), (.int .u8 y4), g5, g6, g7, g8, g9, g10, g11, g12, g13, g14, g15, g16, g17, g18, g19, g20, g21, g22, g23, g24, g25, g26, g27, g28, g29, g30, g31, (.bool y32), g33, g34, g35, g36, g37, g38, g39, g40, g41, g42, g43, g44, g45, g46, g47, g48, g49, g50, g51, g52], []⟩ S (fun v S1 => v = (.bool p) ∧ S1 = S) := by
  unfold J3 at h
  refine q_op (dst := some 33) rfl (fun _ ho => ok_move ho (.tmp rfl)) ?_
  rcases ifc h with ⟨hc7, h⟩ | ⟨hc7, h⟩
  · refine q_skip (dst := some 34) (t := 33) rfl rfl rfl hc7 ?_
    try dsimp only [HAct.put, List.set_cons_zero, List.set_cons_succ]
    refine q_skip (dst := some 35) (t := 33) rfl rfl rfl hc7 ?_
    refine q_op (dst := some 36) rfl (fun _ ho => ok_pick_tt ho (.tmp rfl) hc7 (.bool _)) ?_
    try dsimp only [HAct.put, List.set_cons_zero, List.set_cons_succ]
    exact J4_snd hrec0 h
  · refine q_op_g (t := 33) (dst := some 34) rfl rfl rfl (bfalse hc7) (fun _ ho => ok_move ho (.tmp rfl)) ?_
    try dsimp only [HAct.put, List.set_cons_zero, List.set_cons_succ]
    refine q_op_g (t := 33) (dst := some 35) rfl rfl rfl (bfalse hc7) (fun _ ho => ok_ibin ho (.tmp rfl) (.int _ _) rfl) ?_
    refine q_op (dst := some 36) rfl (fun _ ho => ok_pick_ff ho (.tmp rfl) (bfalse hc7) (.tmp rfl)) ?_
    try dsimp only [HAct.put, List.set_cons_zero, List.set_cons_succ]
    exact J4_snd hrec0 h
def L2 (k : Nat) : Nat → (List UInt8) → Int → Option (Bool)
  | 0, _, _ => none
  | n + 1, y0, y3 =>
    (if y3 < (List.length y0 : Int) then
    (Option.bind (sat y0 y3) fun p5 =>
    (if (UInt8.toNat p5 : Int) = 0 then
    J3 k (L2 k n) y0 y3 (UInt8.toNat p5 : Int) true else
    J3 k (L2 k n) y0 y3 (UInt8.toNat p5 : Int) (decide ((UInt8.toNat p5 : Int) = 7)))) else
    some true)
theorem L2_snd {k : Nat}  : ∀ {n : Nat} ⦃y0 : (List UInt8)⦄ ⦃y3 : Int⦄ ⦃S : HS⦄ ⦃p : Bool⦄ ⦃g1 g2 g4 g5 g6 g7 g8 g9 g10 g11 g12 g13 g14 g15 g16 g17 g18 g19 g20 g21 g22 g23 g24 g25 g26 g27 g28 g29 g30 g31 g32 g33 g34 g35 g36 g37 g38 g39 g40 g41 g42 g43 g44 g45 g46 g47 g48 g49 g50 g51 g52 : HV⦄, L2 k n y0 y3 = some p → HRun Try.prog base W0 β0 13 none [.inLoop c15, .inBlock 0, .code c33] ⟨[(.str y0), g1, g2, (.int .i64 y3), g4, g5, g6, g7, g8, g9, g10, g11, g12, g13, g14, g15, g16, g17, g18, g19, g20, g21, g22, g23, g24, g25, g26, g27, g28, g29, g30, g31, g32, g33, g34, g35, g36, g37, g38, g39, g40, g41, g42, g43, g44, g45, g46, g47, g48, g49, g50, g51, g52], []⟩ S (fun v S1 => v = (.bool p) ∧ S1 = S) := by
  intro n
  induction n with
  | zero => intro _ _ _ _ _ _ _ _ _ _ _ _ _ _ _ _ _ _ _ _ _ _ _ _ _ _ _ _ _ _ _ _ _ _ _ _ _ _ _ _ _ _ _ _ _ _ _ _ _ _ _ _ _ _ _ h; cases h
  | succ n ih =>
    intro y0 y3 S p g1 g2 g4 g5 g6 g7 g8 g9 g10 g11 g12 g13 g14 g15 g16 g17 g18 g19 g20 g21 g22 g23 g24 g25 g26 g27 g28 g29 g30 g31 g32 g33 g34 g35 g36 g37 g38 g39 g40 g41 g42 g43 g44 g45 g46 g47 g48 g49 g50 g51 g52 h
    simp only [L2] at h
    refine hr_inLoop ?_
    refine q_seq e15 ?_
    refine q_seq e16 ?_
    refine q_region e17 rfl ?_
    refine q_op (dst := some 18) rfl (fun _ ho => ok_move ho (.tmp rfl)) ?_
    refine q_op (dst := some 19) rfl (fun _ ho => ok_move ho (.tmp rfl)) ?_
    refine q_op (dst := some 20) rfl (fun _ ho => ok_len_str ho rfl tu9 (.tmp rfl)) ?_
    refine q_op (dst := some 21) rfl (fun _ ho => ok_ibin ho (.tmp rfl) (.tmp rfl) rfl) ?_
    refine hr_region_end ?_
    try dsimp only [HAct.put, List.set_cons_zero, List.set_cons_succ]
    rcases ifc h with ⟨hc4, h⟩ | ⟨hc4, h⟩
    · refine q_cond_t e18 (.tmp rfl) (decide_eq_true hc4) ?_
      refine q_skipc e19 ?_
      refine q_seq e21 ?_
      refine q_block e22 ?_
      refine q_seq e23 ?_
      refine q_region e24 rfl ?_
      refine q_op (dst := some 24) rfl (fun _ ho => ok_move ho (.tmp rfl)) ?_
      refine q_op (dst := some 25) rfl (fun _ ho => ok_move ho (.tmp rfl)) ?_
      obtain ⟨p5, hp5, h⟩ := bindo h
      refine q_op (dst := some 26) rfl (fun _ ho => ok_index_s ho tu9 (.tmp rfl) (.tmp rfl) hp5) ?_
      refine q_op (dst := some 4) rfl (fun _ ho => ok_assign ho (.tmp rfl)) ?_
      refine hr_region_end ?_
      try dsimp only [HAct.put, List.set_cons_zero, List.set_cons_succ]
      refine q_seq e25 ?_
      refine q_region e26 rfl ?_
      refine q_op (dst := some 27) rfl (fun _ ho => ok_move ho (.tmp rfl)) ?_
      refine q_op (dst := some 28) rfl (fun _ ho => ok_ibin ho (.tmp rfl) (.int _ _) rfl) ?_
      refine q_op (dst := some 29) rfl (fun _ ho => ok_move ho (.tmp rfl)) ?_
      rcases ifc h with ⟨hc6, h⟩ | ⟨hc6, h⟩
      · refine q_skip (dst := some 30) (t := 29) rfl rfl rfl (decide_eq_true hc6) ?_
        try dsimp only [HAct.put, List.set_cons_zero, List.set_cons_succ]
        refine q_skip (dst := some 31) (t := 29) rfl rfl rfl (decide_eq_true hc6) ?_
        refine q_op (dst := some 32) rfl (fun _ ho => ok_pick_tt ho (.tmp rfl) (decide_eq_true hc6) (.bool _)) ?_
        try dsimp only [HAct.put, List.set_cons_zero, List.set_cons_succ]
        exact J3_snd ih h
      · refine q_op_g (t := 29) (dst := some 30) rfl rfl rfl (decide_eq_false hc6) (fun _ ho => ok_move ho (.tmp rfl)) ?_
        try dsimp only [HAct.put, List.set_cons_zero, List.set_cons_succ]
        refine q_op_g (t := 29) (dst := some 31) rfl rfl rfl (decide_eq_false hc6) (fun _ ho => ok_ibin ho (.tmp rfl) (.int _ _) rfl) ?_
        refine q_op (dst := some 32) rfl (fun _ ho => ok_pick_ff ho (.tmp rfl) (decide_eq_false hc6) (.tmp rfl)) ?_
        try dsimp only [HAct.put, List.set_cons_zero, List.set_cons_succ]
        exact J3_snd ih h
    · refine q_cond_f e18 (.tmp rfl) (decide_eq_false hc4) ?_
      refine q_exit e20 rfl ?_
      refine q_seq e33 ?_
      refine q_region e34 rfl ?_
      refine q_op (dst := some 2) rfl (fun _ ho => ok_assign ho (.bool _)) ?_
      refine hr_region_end ?_
      try dsimp only [HAct.put, List.set_cons_zero, List.set_cons_succ]
      cases h
      exact q_ret e35 at_.at_ rfl (res1 rfl rfl) ⟨rfl, rfl⟩
def J1 (k : Nat) (y0 : (List UInt8)) (y17 : Bool) : Option (Bool) :=
  (if y17 = true then
  some false else
  L2 k k y0 1)
theorem J1_snd {k : Nat}  {y0 : (List UInt8)} {y17 : Bool} {S : HS} {p : Bool} {g1 g2 g3 g4 g5 g6 g7 g8 g9 g10 g11 g12 g13 g14 g15 g16 g18 g19 g20 g21 g22 g23 g24 g25 g26 g27 g28 g29 g30 g31 g32 g33 g34 g35 g36 g37 g38 g39 g40 g41 g42 g43 g44 g45 g46 g47 g48 g49 g50 g51 g52 : HV} (h : J1 k y0 y17 = some p) : HRun Try.prog base W0 β0 13 none [.code c5, .code c10] ⟨[(.str y0), g1, g2, g3, g4, g5, g6, g7, g8, g9, g10, g11, g12, g13, g14, g15, g16, (.bool y17), g18, g19, g20, g21, g22, g23, g24, g25, g26, g27, g28, g29, g30, g31, g32, g33, g34, g35, g36, g37, g38, g39, g40, g41, g42, g43, g44, g45, g46, g47, g48, g49, g50, g51, g52], []⟩ S (fun v S1 => v = (.bool p) ∧ S1 = S) := by
  unfold J1 at h
  rcases ifc h with ⟨hc3, h⟩ | ⟨hc3, h⟩
  · refine q_cond_t e5 (.tmp rfl) hc3 ?_
    refine q_seq e6 ?_
    refine q_region e7 rfl ?_
    refine q_op (dst := some 2) rfl (fun _ ho => ok_assign ho (.bool _)) ?_
    refine hr_region_end ?_
    try dsimp only [HAct.put, List.set_cons_zero, List.set_cons_succ]
    cases h
    exact q_ret e8 at_.at_ rfl (res1 rfl rfl) ⟨rfl, rfl⟩
  · refine q_cond_f e5 (.tmp rfl) (bfalse hc3) ?_
    refine q_skipc e9 ?_
    refine q_seq e10 ?_
    refine q_seq e11 ?_
    refine q_region e12 rfl ?_
    refine q_op (dst := some 3) rfl (fun _ ho => ok_assign ho (.int _ _)) ?_
    refine hr_region_end ?_
    try dsimp only [HAct.put, List.set_cons_zero, List.set_cons_succ]
    refine q_block e13 ?_
    refine q_loop e14 ?_
    try dsimp only [HAct.put, List.set_cons_zero, List.set_cons_succ]
    exact L2_snd  h
def J0 (k : Nat) (y0 : (List UInt8)) (y12 : Bool) : Option (Bool) :=
  (if y12 = true then
  J1 k y0 true else
  (Option.bind (sat y0 0) fun p13 =>
  J1 k y0 (!decide ((UInt8.toNat p13 : Int) = 35))))
theorem J0_snd {k : Nat}  {y0 : (List UInt8)} {y12 : Bool} {S : HS} {p : Bool} {g1 g2 g3 g4 g5 g6 g7 g8 g9 g10 g11 g13 g14 g15 g16 g17 g18 g19 g20 g21 g22 g23 g24 g25 g26 g27 g28 g29 g30 g31 g32 g33 g34 g35 g36 g37 g38 g39 g40 g41 g42 g43 g44 g45 g46 g47 g48 g49 g50 g51 g52 : HV} (h : J0 k y0 y12 = some p) : HRun Try.prog base W0 β0 13 none [.inRegion r4 [8, 9, 10, 11, 12], .code c5, .code c10] ⟨[(.str y0), g1, g2, g3, g4, g5, g6, g7, g8, g9, g10, g11, (.bool y12), g13, g14, g15, g16, g17, g18, g19, g20, g21, g22, g23, g24, g25, g26, g27, g28, g29, g30, g31, g32, g33, g34, g35, g36, g37, g38, g39, g40, g41, g42, g43, g44, g45, g46, g47, g48, g49, g50, g51, g52], []⟩ S (fun v S1 => v = (.bool p) ∧ S1 = S) := by
  unfold J0 at h
  refine q_op (dst := some 13) rfl (fun _ ho => ok_move ho (.tmp rfl)) ?_
  rcases ifc h with ⟨hc2, h⟩ | ⟨hc2, h⟩
  · refine q_skip (dst := some 14) (t := 13) rfl rfl rfl hc2 ?_
    refine q_skip (dst := some 15) (t := 13) rfl rfl rfl hc2 ?_
    refine q_skip (dst := some 16) (t := 13) rfl rfl rfl hc2 ?_
    try dsimp only [HAct.put, List.set_cons_zero, List.set_cons_succ]
    refine q_op (dst := some 17) rfl (fun _ ho => ok_pick_tt ho (.tmp rfl) hc2 (.bool _)) ?_
    refine hr_region_end ?_
    try dsimp only [HAct.put, List.set_cons_zero, List.set_cons_succ]
    try dsimp only [HAct.put, List.set_cons_zero, List.set_cons_succ]
    exact J1_snd  h
  · refine q_op_g (t := 13) (dst := some 14) rfl rfl rfl (bfalse hc2) (fun _ ho => ok_move ho (.tmp rfl)) ?_
    obtain ⟨p13, hp13, h⟩ := bindo h
    refine q_op_g (t := 13) (dst := some 15) rfl rfl rfl (bfalse hc2) (fun _ ho => ok_index_s ho tu9 (.tmp rfl) (.int _ _) hp13) ?_
    refine q_op_g (t := 13) (dst := some 16) rfl rfl rfl (bfalse hc2) (fun _ ho => ok_ibin ho (.tmp rfl) (.int _ _) rfl) ?_
    try dsimp only [HAct.put, List.set_cons_zero, List.set_cons_succ]
    refine q_op (dst := some 17) rfl (fun _ ho => ok_pick_ff ho (.tmp rfl) (bfalse hc2) (.tmp rfl)) ?_
    refine hr_region_end ?_
    try dsimp only [HAct.put, List.set_cons_zero, List.set_cons_succ]
    try dsimp only [HAct.put, List.set_cons_zero, List.set_cons_succ]
    exact J1_snd  h
def f (k : Nat) (x0 : (List UInt8)) : Option (Bool) :=
  (if (List.length x0 : Int) < 2 then
  J0 k x0 true else
  J0 k x0 (decide ((List.length x0 : Int) > 50)))
theorem snd {k : Nat} {x0 : (List UInt8)} {S : HS}  {p : Bool} (h : f k x0 = some p) : HCall Try.prog base W0 β0 13 [(.str x0)] S (fun v S1 => v = (.bool p) ∧ S1 = S) := by
  unfold f at h
  refine HCall.of_run at_.at_ body ?_
  show HRun Try.prog base W0 β0 13 none [.code c0] ⟨[(.str x0), .tup [], .tup [], .tup [], .tup [], .tup [], .tup [], .tup [], .tup [], .tup [], .tup [], .tup [], .tup [], .tup [], .tup [], .tup [], .tup [], .tup [], .tup [], .tup [], .tup [], .tup [], .tup [], .tup [], .tup [], .tup [], .tup [], .tup [], .tup [], .tup [], .tup [], .tup [], .tup [], .tup [], .tup [], .tup [], .tup [], .tup [], .tup [], .tup [], .tup [], .tup [], .tup [], .tup [], .tup [], .tup [], .tup [], .tup [], .tup [], .tup [], .tup [], .tup [], .tup []], []⟩ S _
  refine q_seq e0 ?_
  refine q_region e1 rfl ?_
  refine q_op (dst := some 2) rfl (fun _ ho => ok_assign ho (.bool _)) ?_
  refine hr_region_end ?_
  try dsimp only [HAct.put, List.set_cons_zero, List.set_cons_succ]
  refine q_seq e2 ?_
  refine q_seq e3 ?_
  refine q_region e4 rfl ?_
  refine q_op (dst := some 5) rfl (fun _ ho => ok_move ho (.tmp rfl)) ?_
  refine q_op (dst := some 6) rfl (fun _ ho => ok_len_str ho rfl tu9 (.tmp rfl)) ?_
  refine q_op (dst := some 7) rfl (fun _ ho => ok_ibin ho (.tmp rfl) (.int _ _) rfl) ?_
  refine q_op (dst := some 8) rfl (fun _ ho => ok_move ho (.tmp rfl)) ?_
  try dsimp only [HAct.put, List.set_cons_zero, List.set_cons_succ]
  rcases ifc h with ⟨hc1, h⟩ | ⟨hc1, h⟩
  · refine q_skip (dst := some 9) (t := 8) rfl rfl rfl (decide_eq_true hc1) ?_
    refine q_skip (dst := some 10) (t := 8) rfl rfl rfl (decide_eq_true hc1) ?_
    refine q_skip (dst := some 11) (t := 8) rfl rfl rfl (decide_eq_true hc1) ?_
    refine q_op (dst := some 12) rfl (fun _ ho => ok_pick_tt ho (.tmp rfl) (decide_eq_true hc1) (.bool _)) ?_
    try dsimp only [HAct.put, List.set_cons_zero, List.set_cons_succ]
    try dsimp only [HAct.put, List.set_cons_zero, List.set_cons_succ]
    exact J0_snd  h
  · refine q_op_g (t := 8) (dst := some 9) rfl rfl rfl (decide_eq_false hc1) (fun _ ho => ok_move ho (.tmp rfl)) ?_
    refine q_op_g (t := 8) (dst := some 10) rfl rfl rfl (decide_eq_false hc1) (fun _ ho => ok_len_str ho rfl tu9 (.tmp rfl)) ?_
    refine q_op_g (t := 8) (dst := some 11) rfl rfl rfl (decide_eq_false hc1) (fun _ ho => ok_ibin ho (.tmp rfl) (.int _ _) rfl) ?_
    refine q_op (dst := some 12) rfl (fun _ ho => ok_pick_ff ho (.tmp rfl) (decide_eq_false hc1) (.tmp rfl)) ?_
    try dsimp only [HAct.put, List.set_cons_zero, List.set_cons_succ]
    try dsimp only [HAct.put, List.set_cons_zero, List.set_cons_succ]
    exact J0_snd  h
end
end rollcallref03_Channel
namespace valid_User
abbrev id : Nat := 14
theorem at_ : FnAt Try.prog 14 Try.f14 := ⟨Try.func14, by kernel_rfl⟩
noncomputable def c0 : Code := (Try.f14.body).getD .skip
noncomputable def c1 : Code := match c0 with | .seq x _ => x | _ => .skip
noncomputable def c2 : Code := match c0 with | .seq _ x => x | _ => .skip
noncomputable def c3 : Code := match c2 with | .seq x _ => x | _ => .skip
noncomputable def c4 : Code := match c2 with | .seq _ x => x | _ => .skip
theorem e0 : c0 = .seq c1 c2 := by kernel_rfl
noncomputable def r1 : Array Oper := match c1 with | .region _ x _ => x | _ => #[]
theorem e1 : c1 = .region 0 r1 false := by kernel_rfl
theorem e2 : c2 = .seq c3 c4 := by kernel_rfl
noncomputable def r3 : Array Oper := match c3 with | .region _ x _ => x | _ => #[]
theorem e3 : c3 = .region 1 r3 false := by kernel_rfl
theorem e4 : c4 = .ret := by kernel_rfl
theorem body : Try.f14.body = some c0 := by kernel_rfl
section
variable {base : Nat} {W0 : World} {β0 : Bt}
def f (k : Nat) (x0 : (List UInt8)) (S : HS) : Option ((Bool) × HS) :=
  (Option.bind (valid_all.f k x0 1 10 8 S) fun p1 =>
  some (p1.1, p1.2))
theorem snd {k : Nat} {x0 : (List UInt8)} {S : HS}  {p : (Bool) × HS} (h : f k x0 S = some p) : HCall Try.prog base W0 β0 14 [(.str x0)] S (fun v S1 => v = (.bool p.1) ∧ S1 = p.2) := by
  unfold f at h
  refine HCall.of_run at_.at_ body ?_
  show HRun Try.prog base W0 β0 14 none [.code c0] ⟨[(.str x0), .tup [], .tup [], .tup [], .tup []], []⟩ S _
  refine q_seq e0 ?_
  refine q_region e1 rfl ?_
  refine q_op (dst := some 2) rfl (fun _ ho => ok_assign ho (.bool _)) ?_
  refine hr_region_end ?_
  try dsimp only [HAct.put, List.set_cons_zero, List.set_cons_succ]
  refine q_seq e2 ?_
  refine q_region e3 rfl ?_
  refine q_op (dst := some 3) rfl (fun _ ho => ok_move ho (.tmp rfl)) ?_
  obtain ⟨p1, hp1, h⟩ := bindo h
  refine q_call (dst := some 4) rfl (.func _) (.cons (.tmp rfl) (.cons (.int _ _) (.cons (.int _ _) (.cons (.int _ _) Evs.nil)))) (HInv.static valid_all.at_ valid_all.body (valid_all.snd  hp1)) ?_
  rintro _ _ ⟨rfl, rfl⟩
  refine q_op (dst := some 2) rfl (fun _ ho => ok_assign ho (.tmp rfl)) ?_
  refine hr_region_end ?_
  try dsimp only [HAct.put, List.set_cons_zero, List.set_cons_succ]
  cases h
  exact q_ret e4 at_.at_ rfl (res1 rfl rfl) ⟨rfl, rfl⟩
end
end valid_User
namespace rollcallref03_User
abbrev id : Nat := 15
theorem at_ : FnAt Try.prog 15 Try.f15 := ⟨Try.func15, by kernel_rfl⟩
noncomputable def c0 : Code := (Try.f15.body).getD .skip
noncomputable def c1 : Code := match c0 with | .seq x _ => x | _ => .skip
noncomputable def c2 : Code := match c0 with | .seq _ x => x | _ => .skip
noncomputable def c3 : Code := match c2 with | .seq x _ => x | _ => .skip
noncomputable def c4 : Code := match c3 with | .seq x _ => x | _ => .skip
noncomputable def c5 : Code := match c3 with | .seq _ x => x | _ => .skip
noncomputable def c6 : Code := match c5 with | .block _ x => x | _ => .skip
noncomputable def c7 : Code := match c6 with | .loop x => x | _ => .skip
noncomputable def c8 : Code := match c7 with | .seq x _ => x | _ => .skip
noncomputable def c9 : Code := match c8 with | .seq x _ => x | _ => .skip
noncomputable def c10 : Code := match c8 with | .seq _ x => x | _ => .skip
noncomputable def c11 : Code := match c10 with | .cond _ x _ => x | _ => .skip
noncomputable def c12 : Code := match c10 with | .cond _ _ x => x | _ => .skip
noncomputable def c13 : Code := match c7 with | .seq _ x => x | _ => .skip
noncomputable def c14 : Code := match c13 with | .seq x _ => x | _ => .skip
noncomputable def c15 : Code := match c14 with | .block _ x => x | _ => .skip
noncomputable def c16 : Code := match c15 with | .seq x _ => x | _ => .skip
noncomputable def c17 : Code := match c15 with | .seq _ x => x | _ => .skip
noncomputable def c18 : Code := match c17 with | .cond _ x _ => x | _ => .skip
noncomputable def c19 : Code := match c18 with | .seq x _ => x | _ => .skip
noncomputable def c20 : Code := match c18 with | .seq _ x => x | _ => .skip
noncomputable def c21 : Code := match c17 with | .cond _ _ x => x | _ => .skip
noncomputable def c22 : Code := match c13 with | .seq _ x => x | _ => .skip
noncomputable def c23 : Code := match c2 with | .seq _ x => x | _ => .skip
noncomputable def c24 : Code := match c23 with | .seq x _ => x | _ => .skip
noncomputable def c25 : Code := match c23 with | .seq _ x => x | _ => .skip
theorem e0 : c0 = .seq c1 c2 := by kernel_rfl
noncomputable def r1 : Array Oper := match c1 with | .region _ x _ => x | _ => #[]
theorem e1 : c1 = .region 0 r1 false := by kernel_rfl
theorem e2 : c2 = .seq c3 c23 := by kernel_rfl
theorem e3 : c3 = .seq c4 c5 := by kernel_rfl
noncomputable def r4 : Array Oper := match c4 with | .region _ x _ => x | _ => #[]
theorem e4 : c4 = .region 1 r4 false := by kernel_rfl
theorem e5 : c5 = .block 0 c6 := by kernel_rfl
theorem e6 : c6 = .loop c7 := by kernel_rfl
theorem e7 : c7 = .seq c8 c13 := by kernel_rfl
theorem e8 : c8 = .seq c9 c10 := by kernel_rfl
noncomputable def r9 : Array Oper := match c9 with | .region _ x _ => x | _ => #[]
theorem e9 : c9 = .region 2 r9 false := by kernel_rfl
theorem e10 : c10 = .cond (.tmp 7) c11 c12 := by kernel_rfl
theorem e11 : c11 = .skip := by kernel_rfl
theorem e12 : c12 = .exit 0 := by kernel_rfl
theorem e13 : c13 = .seq c14 c22 := by kernel_rfl
theorem e14 : c14 = .block 1 c15 := by kernel_rfl
theorem e15 : c15 = .seq c16 c17 := by kernel_rfl
noncomputable def r16 : Array Oper := match c16 with | .region _ x _ => x | _ => #[]
theorem e16 : c16 = .region 4 r16 false := by kernel_rfl
theorem e17 : c17 = .cond (.tmp 25) c18 c21 := by kernel_rfl
theorem e18 : c18 = .seq c19 c20 := by kernel_rfl
noncomputable def r19 : Array Oper := match c19 with | .region _ x _ => x | _ => #[]
theorem e19 : c19 = .region 5 r19 false := by kernel_rfl
theorem e20 : c20 = .ret := by kernel_rfl
theorem e21 : c21 = .skip := by kernel_rfl
noncomputable def r22 : Array Oper := match c22 with | .region _ x _ => x | _ => #[]
theorem e22 : c22 = .region 3 r22 false := by kernel_rfl
theorem e23 : c23 = .seq c24 c25 := by kernel_rfl
noncomputable def r24 : Array Oper := match c24 with | .region _ x _ => x | _ => #[]
theorem e24 : c24 = .region 6 r24 false := by kernel_rfl
theorem e25 : c25 = .ret := by kernel_rfl
theorem body : Try.f15.body = some c0 := by kernel_rfl
section
variable {base : Nat} {W0 : World} {β0 : Bt}
def J2 (k : Nat) (rec0 : (List UInt8) → Int → Option (Bool)) (y0 : (List UInt8)) (y3 : Int) (y25 : Bool) : Option (Bool) :=
  (if y25 = true then
  some false else
  rec0 y0 (w64 (y3 + 1)))
theorem J2_snd {k : Nat} {rec0 : (List UInt8) → Int → Option (Bool)} (hrec0 : ∀ ⦃y0 : (List UInt8)⦄ ⦃y3 : Int⦄ ⦃S : HS⦄ ⦃p : Bool⦄ ⦃g1 g2 g4 g5 g6 g7 g8 g9 g10 g11 g12 g13 g14 g15 g16 g17 g18 g19 g20 g21 g22 g23 g24 g25 g26 g27 g28 g29 g30 g31 g32 g33 : HV⦄, rec0 y0 y3 = some p → HRun Try.prog base W0 β0 15 none [.inLoop c7, .inBlock 0, .code c23] ⟨[(.str y0), g1, g2, (.int .i64 y3), g4, g5, g6, g7, g8, g9, g10, g11, g12, g13, g14, g15, g16, g17, g18, g19, g20, g21, g22, g23, g24, g25, g26, g27, g28, g29, g30, g31, g32, g33], []⟩ S (fun v S1 => v = (.bool p) ∧ S1 = S)) {y0 : (List UInt8)} {y3 : Int} {y25 : Bool} {S : HS} {p : Bool} {g1 g2 g4 g5 g6 g7 g8 g9 g10 g11 g12 g13 g14 g15 g16 g17 g18 g19 g20 g21 g22 g23 g24 g26 g27 g28 g29 g30 g31 g32 g33 : HV} (h : J2 k rec0 y0 y3 y25 = some p) : HRun Try.prog base W0 β0 15 none [.code c17, .inBlock 1, .code c22, .inLoop c7, .inBlock 0, .code c23] ⟨[(.str y0), g1, g2, (.int .i64 y3), g4, g5, g6, g7, g8, g9, g10, g11, g12, g13, g14, g15, g16, g17, g18, g19, g20, g21, g22, g23, g24, (.bool y25), g26, g27, g28, g29, g30, g31, g32, g33], []⟩ S (fun v S1 => v = (.bool p) ∧ S1 = S) := by
  unfold J2 at h
  rcases ifc h with ⟨hc5, h⟩ | ⟨hc5, h⟩
  · refine q_cond_t e17 (.tmp rfl) hc5 ?_
    refine q_seq e18 ?_
    refine q_region e19 rfl ?_
    refine q_op (dst := some 2) rfl (fun _ ho => ok_assign ho (.bool _)) ?_
    refine hr_region_end ?_
    try dsimp only [HAct.put, List.set_cons_zero, List.set_cons_succ]
    cases h
    exact q_ret e20 at_.at_ rfl (res1 rfl rfl) ⟨rfl, rfl⟩
  · refine q_cond_f e17 (.tmp rfl) (bfalse hc5) ?_
    refine q_skipc e21 ?_
    refine hr_inBlock ?_
    refine q_region e22 rfl ?_
    refine q_op (dst := some 8) rfl (fun _ ho => ok_move ho (.tmp rfl)) ?_
    refine q_op (dst := some 9) rfl (fun _ ho => ok_ibin ho (.tmp rfl) (.int _ _) rfl) ?_
    refine q_op (dst := some 3) rfl (fun _ ho => ok_assign ho (.tmp rfl)) ?_
    refine hr_region_end ?_
    try dsimp only [HAct.put, List.set_cons_zero, List.set_cons_succ]
    try dsimp only [HAct.put, List.set_cons_zero, List.set_cons_succ]
    exact hrec0 h
def J1 (k : Nat) (rec0 : (List UInt8) → Int → Option (Bool)) (y0 : (List UInt8)) (y3 : Int) (y19 : Bool) : Option (Bool) :=
  (if y19 = true then
  J2 k rec0 y0 y3 true else
  (Option.bind (sat y0 y3) fun p6 =>
  (Option.bind (rollcallref03_in.f k ([33, 64, 42, 63, 58] : List UInt8) (UInt8.toNat p6 : Int)) fun p7 =>
  J2 k rec0 y0 y3 p7)))
theorem J1_snd {k : Nat} {rec0 : (List UInt8) → Int → Option (Bool)} (hrec0 : ∀ ⦃y0 : (List UInt8)⦄ ⦃y3 : Int⦄ ⦃S : HS⦄ ⦃p : Bool⦄ ⦃g1 g2 g4 g5 g6 g7 g8 g9 g10 g11 g12 g13 g14 g15 g16 g17 g18 g19 g20 g21 g22 g23 g24 g25 g26 g27 g28 g29 g30 g31 g32 g33 : HV⦄, rec0 y0 y3 = some p → HRun Try.prog base W0 β0 15 none [.inLoop c7, .inBlock 0, .code c23] ⟨[(.str y0), g1, g2, (.int .i64 y3), g4, g5, g6, g7, g8, g9, g10, g11, g12, g13, g14, g15, g16, g17, g18, g19, g20, g21, g22, g23, g24, g25, g26, g27, g28, g29, g30, g31, g32, g33], []⟩ S (fun v S1 => v = (.bool p) ∧ S1 = S)) {y0 : (List UInt8)} {y3 : Int} {y19 : Bool} {S : HS} {p : Bool} {g1 g2 g4 g5 g6 g7 g8 g9 g10 g11 g12 g13 g14 g15 g16 g17 g18 g20 g21 g22 g23 g24 g25 g26 g27 g28 g29 g30 g31 g32 g33 : HV} (h : J1 k rec0 y0 y3 y19 = some p) : HRun Try.prog base W0 β0 15 none [.inRegion r16 [10, 11, 12, 13, 14, 15], .code c17, .inBlock 1, .code c22, .inLoop c7, .inBlock 0, .code c23] ⟨[(.str y0), g1, g2, (.int .i64 y3), g4, g5, g6, g7, g8, g9, g10, g11, g12, g13, g14, g15, g16, g17, g18, (.bool y19), g20, g21, g22, g23, g24, g25, g26, g27, g28, g29, g30, g31, g32, g33], []⟩ S (fun v S1 => v = (.bool p) ∧ S1 = S) := by
  unfold J1 at h
  refine q_op (dst := some 20) rfl (fun _ ho => ok_move ho (.tmp rfl)) ?_
  rcases ifc h with ⟨hc4, h⟩ | ⟨hc4, h⟩
  · refine q_skip (dst := some 21) (t := 20) rfl rfl rfl hc4 ?_
    try dsimp only [HAct.put, List.set_cons_zero, List.set_cons_succ]
    refine q_skip (dst := some 22) (t := 20) rfl rfl rfl hc4 ?_
    refine q_skip (dst := some 23) (t := 20) rfl rfl rfl hc4 ?_
    refine q_skip (dst := some 24) (t := 20) rfl rfl rfl hc4 ?_
    refine q_op (dst := some 25) rfl (fun _ ho => ok_pick_tt ho (.tmp rfl) hc4 (.bool _)) ?_
    refine hr_region_end ?_
    try dsimp only [HAct.put, List.set_cons_zero, List.set_cons_succ]
    try dsimp only [HAct.put, List.set_cons_zero, List.set_cons_succ]
    exact J2_snd hrec0 h
  · refine q_op_g (t := 20) (dst := some 21) rfl rfl rfl (bfalse hc4) (fun _ ho => ok_move ho (.tmp rfl)) ?_
    try dsimp only [HAct.put, List.set_cons_zero, List.set_cons_succ]
    refine q_op_g (t := 20) (dst := some 22) rfl rfl rfl (bfalse hc4) (fun _ ho => ok_move ho (.tmp rfl)) ?_
    obtain ⟨p6, hp6, h⟩ := bindo h
    refine q_op_g (t := 20) (dst := some 23) rfl rfl rfl (bfalse hc4) (fun _ ho => ok_index_s ho tu9 (.tmp rfl) (.tmp rfl) hp6) ?_
    obtain ⟨p7, hp7, h⟩ := bindo h
    refine q_call_g (t := 20) (dst := some 24) rfl rfl rfl (bfalse hc4) (.func _) (.cons (.str _) (.cons (.tmp rfl) Evs.nil)) (HInv.static rollcallref03_in.at_ rollcallref03_in.body (rollcallref03_in.snd  hp7)) ?_
    rintro _ _ ⟨rfl, rfl⟩
    refine q_op (dst := some 25) rfl (fun _ ho => ok_pick_ff ho (.tmp rfl) (bfalse hc4) (.tmp rfl)) ?_
    refine hr_region_end ?_
    try dsimp only [HAct.put, List.set_cons_zero, List.set_cons_succ]
    try dsimp only [HAct.put, List.set_cons_zero, List.set_cons_succ]
    exact J2_snd hrec0 h
def J3 (k : Nat) (y33 : Bool) : Option (Bool) :=
  some y33
theorem J3_snd {k : Nat}  {y33 : Bool} {S : HS} {p : Bool} {g0 g1 g2 g3 g4 g5 g6 g7 g8 g9 g10 g11 g12 g13 g14 g15 g16 g17 g18 g19 g20 g21 g22 g23 g24 g25 g26 g27 g28 g29 g30 g31 g32 : HV} (h : J3 k y33 = some p) : HRun Try.prog base W0 β0 15 none [.inRegion r24 [8], .code c25] ⟨[g0, g1, g2, g3, g4, g5, g6, g7, g8, g9, g10, g11, g12, g13, g14, g15, g16, g17, g18, g19, g20, g21, g22, g23, g24, g25, g26, g27, g28, g29, g30, g31, g32, (.bool y33)], []⟩ S (fun v S1 => v = (.bool p) ∧ S1 = S) := by
  unfold J3 at h
  refine q_op (dst := some 2) rfl (fun _ ho => ok_assign ho (.tmp rfl)) ?_
  refine hr_region_end ?_
  try dsimp only [HAct.put, List.set_cons_zero, List.set_cons_succ]
  cases h
  exact q_ret e25 at_.at_ rfl (res1 rfl rfl) ⟨rfl, rfl⟩
def L0 (k : Nat) : Nat → (List UInt8) → Int → Option (Bool)
  | 0, _, _ => none
  | n + 1, y0, y3 =>
    (if y3 < (List.length y0 : Int) then
    (Option.bind (sat y0 y3) fun p2 =>
    (if (UInt8.toNat p2 : Int) < 33 then
    J1 k (L0 k n) y0 y3 true else
    (Option.bind (sat y0 y3) fun p8 =>
    J1 k (L0 k n) y0 y3 (decide ((UInt8.toNat p8 : Int) > 126))))) else
    (if (List.length y0 : Int) ≥ 1 then
    J3 k (decide ((List.length y0 : Int) ≤ 10)) else
    J3 k false))
theorem L0_snd {k : Nat}  : ∀ {n : Nat} ⦃y0 : (List UInt8)⦄ ⦃y3 : Int⦄ ⦃S : HS⦄ ⦃p : Bool⦄ ⦃g1 g2 g4 g5 g6 g7 g8 g9 g10 g11 g12 g13 g14 g15 g16 g17 g18 g19 g20 g21 g22 g23 g24 g25 g26 g27 g28 g29 g30 g31 g32 g33 : HV⦄, L0 k n y0 y3 = some p → HRun Try.prog base W0 β0 15 none [.inLoop c7, .inBlock 0, .code c23] ⟨[(.str y0), g1, g2, (.int .i64 y3), g4, g5, g6, g7, g8, g9, g10, g11, g12, g13, g14, g15, g16, g17, g18, g19, g20, g21, g22, g23, g24, g25, g26, g27, g28, g29, g30, g31, g32, g33], []⟩ S (fun v S1 => v = (.bool p) ∧ S1 = S) := by
  intro n
  induction n with
  | zero => intro _ _ _ _ _ _ _ _ _ _ _ _ _ _ _ _ _ _ _ _ _ _ _ _ _ _ _ _ _ _ _ _ _ _ _ _ h; cases h
  | succ n ih =>
    intro y0 y3 S p g1 g2 g4 g5 g6 g7 g8 g9 g10 g11 g12 g13 g14 g15 g16 g17 g18 g19 g20 g21 g22 g23 g24 g25 g26 g27 g28 g29 g30 g31 g32 g33 h
    simp only [L0] at h
    refine hr_inLoop ?_
    refine q_seq e7 ?_
    refine q_seq e8 ?_
    refine q_region e9 rfl ?_
    refine q_op (dst := some 4) rfl (fun _ ho => ok_move ho (.tmp rfl)) ?_
    refine q_op (dst := some 5) rfl (fun _ ho => ok_move ho (.tmp rfl)) ?_
    refine q_op (dst := some 6) rfl (fun _ ho => ok_len_str ho rfl tu9 (.tmp rfl)) ?_
    refine q_op (dst := some 7) rfl (fun _ ho => ok_ibin ho (.tmp rfl) (.tmp rfl) rfl) ?_
    refine hr_region_end ?_
    try dsimp only [HAct.put, List.set_cons_zero, List.set_cons_succ]
    rcases ifc h with ⟨hc1, h⟩ | ⟨hc1, h⟩
    · refine q_cond_t e10 (.tmp rfl) (decide_eq_true hc1) ?_
      refine q_skipc e11 ?_
      refine q_seq e13 ?_
      refine q_block e14 ?_
      refine q_seq e15 ?_
      refine q_region e16 rfl ?_
      refine q_op (dst := some 10) rfl (fun _ ho => ok_move ho (.tmp rfl)) ?_
      refine q_op (dst := some 11) rfl (fun _ ho => ok_move ho (.tmp rfl)) ?_
      obtain ⟨p2, hp2, h⟩ := bindo h
      refine q_op (dst := some 12) rfl (fun _ ho => ok_index_s ho tu9 (.tmp rfl) (.tmp rfl) hp2) ?_
      refine q_op (dst := some 13) rfl (fun _ ho => ok_ibin ho (.tmp rfl) (.int _ _) rfl) ?_
      try dsimp only [HAct.put, List.set_cons_zero, List.set_cons_succ]
      refine q_op (dst := some 14) rfl (fun _ ho => ok_move ho (.tmp rfl)) ?_
      rcases ifc h with ⟨hc3, h⟩ | ⟨hc3, h⟩
      · refine q_skip (dst := some 15) (t := 14) rfl rfl rfl (decide_eq_true hc3) ?_
        refine q_skip (dst := some 16) (t := 14) rfl rfl rfl (decide_eq_true hc3) ?_
        refine q_skip (dst := some 17) (t := 14) rfl rfl rfl (decide_eq_true hc3) ?_
        try dsimp only [HAct.put, List.set_cons_zero, List.set_cons_succ]
        refine q_skip (dst := some 18) (t := 14) rfl rfl rfl (decide_eq_true hc3) ?_
        refine q_op (dst := some 19) rfl (fun _ ho => ok_pick_tt ho (.tmp rfl) (decide_eq_true hc3) (.bool _)) ?_
        try dsimp only [HAct.put, List.set_cons_zero, List.set_cons_succ]
        exact J1_snd ih h
      · refine q_op_g (t := 14) (dst := some 15) rfl rfl rfl (decide_eq_false hc3) (fun _ ho => ok_move ho (.tmp rfl)) ?_
        refine q_op_g (t := 14) (dst := some 16) rfl rfl rfl (decide_eq_false hc3) (fun _ ho => ok_move ho (.tmp rfl)) ?_
        obtain ⟨p8, hp8, h⟩ := bindo h
        refine q_op_g (t := 14) (dst := some 17) rfl rfl rfl (decide_eq_false hc3) (fun _ ho => ok_index_s ho tu9 (.tmp rfl) (.tmp rfl) hp8) ?_
        try dsimp only [HAct.put, List.set_cons_zero, List.set_cons_succ]
        refine q_op_g (t := 14) (dst := some 18) rfl rfl rfl (decide_eq_false hc3) (fun _ ho => ok_ibin ho (.tmp rfl) (.int _ _) rfl) ?_
        refine q_op (dst := some 19) rfl (fun _ ho => ok_pick_ff ho (.tmp rfl) (decide_eq_false hc3) (.tmp rfl)) ?_
        try dsimp only [HAct.put, List.set_cons_zero, List.set_cons_succ]
        exact J1_snd ih h
    · refine q_cond_f e10 (.tmp rfl) (decide_eq_false hc1) ?_
      refine q_exit e12 rfl ?_
      refine q_seq e23 ?_
      refine q_region e24 rfl ?_
      refine q_op (dst := some 26) rfl (fun _ ho => ok_move ho (.tmp rfl)) ?_
      refine q_op (dst := some 27) rfl (fun _ ho => ok_len_str ho rfl tu9 (.tmp rfl)) ?_
      refine q_op (dst := some 28) rfl (fun _ ho => ok_ibin ho (.tmp rfl) (.int _ _) rfl) ?_
      refine q_op (dst := some 29) rfl (fun _ ho => ok_move ho (.tmp rfl)) ?_
      try dsimp only [HAct.put, List.set_cons_zero, List.set_cons_succ]
      rcases ifc h with ⟨hc9, h⟩ | ⟨hc9, h⟩
      · refine q_op_g (t := 29) (dst := some 30) rfl rfl rfl (decide_eq_true hc9) (fun _ ho => ok_move ho (.tmp rfl)) ?_
        refine q_op_g (t := 29) (dst := some 31) rfl rfl rfl (decide_eq_true hc9) (fun _ ho => ok_len_str ho rfl tu9 (.tmp rfl)) ?_
        refine q_op_g (t := 29) (dst := some 32) rfl rfl rfl (decide_eq_true hc9) (fun _ ho => ok_ibin ho (.tmp rfl) (.int _ _) rfl) ?_
        refine q_op (dst := some 33) rfl (fun _ ho => ok_pick_tt ho (.tmp rfl) (decide_eq_true hc9) (.tmp rfl)) ?_
        try dsimp only [HAct.put, List.set_cons_zero, List.set_cons_succ]
        try dsimp only [HAct.put, List.set_cons_zero, List.set_cons_succ]
        exact J3_snd  h
      · refine q_skip (dst := some 30) (t := 29) rfl rfl rfl (decide_eq_false hc9) ?_
        refine q_skip (dst := some 31) (t := 29) rfl rfl rfl (decide_eq_false hc9) ?_
        refine q_skip (dst := some 32) (t := 29) rfl rfl rfl (decide_eq_false hc9) ?_
        refine q_op (dst := some 33) rfl (fun _ ho => ok_pick_ff ho (.tmp rfl) (decide_eq_false hc9) (.bool _)) ?_
        try dsimp only [HAct.put, List.set_cons_zero, List.set_cons_succ]
        try dsimp only [HAct.put, List.set_cons_zero, List.set_cons_succ]
        exact J3_snd  h
def f (k : Nat) (x0 : (List UInt8)) : Option (Bool) :=
  L0 k k x0 0
theorem snd {k : Nat} {x0 : (List UInt8)} {S : HS}  {p : Bool} (h : f k x0 = some p) : HCall Try.prog base W0 β0 15 [(.str x0)] S (fun v S1 => v = (.bool p) ∧ S1 = S) := by
  unfold f at h
  refine HCall.of_run at_.at_ body ?_
  show HRun Try.prog base W0 β0 15 none [.code c0] ⟨[(.str x0), .tup [], .tup [], .tup [], .tup [], .tup [], .tup [], .tup [], .tup [], .tup [], .tup [], .tup [], .tup [], .tup [], .tup [], .tup [], .tup [], .tup [], .tup [], .tup [], .tup [], .tup [], .tup [], .tup [], .tup [], .tup [], .tup [], .tup [], .tup [], .tup [], .tup [], .tup [], .tup [], .tup []], []⟩ S _
  refine q_seq e0 ?_
  refine q_region e1 rfl ?_
  refine q_op (dst := some 2) rfl (fun _ ho => ok_assign ho (.bool _)) ?_
  refine hr_region_end ?_
  try dsimp only [HAct.put, List.set_cons_zero, List.set_cons_succ]
  refine q_seq e2 ?_
  refine q_seq e3 ?_
  refine q_region e4 rfl ?_
  refine q_op (dst := some 3) rfl (fun _ ho => ok_assign ho (.int _ _)) ?_
  refine hr_region_end ?_
  try dsimp only [HAct.put, List.set_cons_zero, List.set_cons_succ]
  refine q_block e5 ?_
  refine q_loop e6 ?_
  try dsimp only [HAct.put, List.set_cons_zero, List.set_cons_succ]
  exact L0_snd  h
end
end rollcallref03_User
namespace rollcalllaw03_ValidNames
abbrev id : Nat := 4
theorem at_ : FnAt Try.prog 4 Try.f4 := ⟨Try.func4, by kernel_rfl⟩
noncomputable def c0 : Code := (Try.f4.body).getD .skip
noncomputable def c1 : Code := match c0 with | .seq x _ => x | _ => .skip
noncomputable def c2 : Code := match c0 with | .seq _ x => x | _ => .skip
noncomputable def c3 : Code := match c2 with | .seq x _ => x | _ => .skip
noncomputable def c4 : Code := match c3 with | .seq x _ => x | _ => .skip
noncomputable def c5 : Code := match c3 with | .seq _ x => x | _ => .skip
noncomputable def c6 : Code := match c5 with | .cond _ x _ => x | _ => .skip
noncomputable def c7 : Code := match c6 with | .seq x _ => x | _ => .skip
noncomputable def c8 : Code := match c6 with | .seq _ x => x | _ => .skip
noncomputable def c9 : Code := match c5 with | .cond _ _ x => x | _ => .skip
noncomputable def c10 : Code := match c2 with | .seq _ x => x | _ => .skip
noncomputable def c11 : Code := match c10 with | .seq x _ => x | _ => .skip
noncomputable def c12 : Code := match c11 with | .seq x _ => x | _ => .skip
noncomputable def c13 : Code := match c11 with | .seq _ x => x | _ => .skip
noncomputable def c14 : Code := match c13 with | .cond _ x _ => x | _ => .skip
noncomputable def c15 : Code := match c14 with | .seq x _ => x | _ => .skip
noncomputable def c16 : Code := match c14 with | .seq _ x => x | _ => .skip
noncomputable def c17 : Code := match c13 with | .cond _ _ x => x | _ => .skip
noncomputable def c18 : Code := match c10 with | .seq _ x => x | _ => .skip
noncomputable def c19 : Code := match c18 with | .seq x _ => x | _ => .skip
noncomputable def c20 : Code := match c18 with | .seq _ x => x | _ => .skip
theorem e0 : c0 = .seq c1 c2 := by kernel_rfl
noncomputable def r1 : Array Oper := match c1 with | .region _ x _ => x | _ => #[]
theorem e1 : c1 = .region 0 r1 false := by kernel_rfl
theorem e2 : c2 = .seq c3 c10 := by kernel_rfl
theorem e3 : c3 = .seq c4 c5 := by kernel_rfl
noncomputable def r4 : Array Oper := match c4 with | .region _ x _ => x | _ => #[]
theorem e4 : c4 = .region 1 r4 false := by kernel_rfl
theorem e5 : c5 = .cond (.tmp 4) c6 c9 := by kernel_rfl
theorem e6 : c6 = .seq c7 c8 := by kernel_rfl
noncomputable def r7 : Array Oper := match c7 with | .region _ x _ => x | _ => #[]
theorem e7 : c7 = .region 2 r7 false := by kernel_rfl
theorem e8 : c8 = .ret := by kernel_rfl
theorem e9 : c9 = .skip := by kernel_rfl
theorem e10 : c10 = .seq c11 c18 := by kernel_rfl
theorem e11 : c11 = .seq c12 c13 := by kernel_rfl
noncomputable def r12 : Array Oper := match c12 with | .region _ x _ => x | _ => #[]
theorem e12 : c12 = .region 3 r12 false := by kernel_rfl
theorem e13 : c13 = .cond (.tmp 7) c14 c17 := by kernel_rfl
theorem e14 : c14 = .seq c15 c16 := by kernel_rfl
noncomputable def r15 : Array Oper := match c15 with | .region _ x _ => x | _ => #[]
theorem e15 : c15 = .region 4 r15 false := by kernel_rfl
theorem e16 : c16 = .ret := by kernel_rfl
theorem e17 : c17 = .skip := by kernel_rfl
theorem e18 : c18 = .seq c19 c20 := by kernel_rfl
noncomputable def r19 : Array Oper := match c19 with | .region _ x _ => x | _ => #[]
theorem e19 : c19 = .region 5 r19 false := by kernel_rfl
theorem e20 : c20 = .ret := by kernel_rfl
theorem body : Try.f4.body = some c0 := by kernel_rfl
section
variable {base : Nat} {W0 : World} {β0 : Bt}
def J1 (k : Nat) (y26 : Bool) (S : HS) : Option ((Bool) × HS) :=
  some (y26, S)
theorem J1_snd {k : Nat}  {y26 : Bool} {S : HS} {p : (Bool) × HS} {g0 g1 g2 g3 g4 g5 g6 g7 g8 g9 g10 g11 g12 g13 g14 g15 g16 g17 g18 g19 g20 g21 g22 g23 g24 g25 : HV} (h : J1 k y26 S = some p) : HRun Try.prog base W0 β0 4 none [.inRegion r19 [19], .code c20] ⟨[g0, g1, g2, g3, g4, g5, g6, g7, g8, g9, g10, g11, g12, g13, g14, g15, g16, g17, g18, g19, g20, g21, g22, g23, g24, g25, (.bool y26)], []⟩ S (fun v S1 => v = (.bool p.1) ∧ S1 = p.2) := by
  unfold J1 at h
  refine q_op (dst := some 2) rfl (fun _ ho => ok_assign ho (.tmp rfl)) ?_
  refine hr_region_end ?_
  try dsimp only [HAct.put, List.set_cons_zero, List.set_cons_succ]
  cases h
  exact q_ret e20 at_.at_ rfl (res1 rfl rfl) ⟨rfl, rfl⟩
def J0 (k : Nat) (y0 : (List UInt8)) (y19 : Bool) (S : HS) : Option ((Bool) × HS) :=
  (if y19 = true then
  (Option.bind (valid_User.f k y0 S) fun p10 =>
  (Option.bind (rollcallref03_User.f k y0) fun p11 =>
  J1 k (p10.1 == p11) p10.2)) else
  J1 k false S)
theorem J0_snd {k : Nat}  {y0 : (List UInt8)} {y19 : Bool} {S : HS} {p : (Bool) × HS} {g1 g2 g3 g4 g5 g6 g7 g8 g9 g10 g11 g12 g13 g14 g15 g16 g17 g18 g20 g21 g22 g23 g24 g25 g26 : HV} (h : J0 k y0 y19 S = some p) : HRun Try.prog base W0 β0 4 none [.inRegion r19 [12, 13, 14, 15, 16, 17, 18, 19], .code c20] ⟨[(.str y0), g1, g2, g3, g4, g5, g6, g7, g8, g9, g10, g11, g12, g13, g14, g15, g16, g17, g18, (.bool y19), g20, g21, g22, g23, g24, g25, g26], []⟩ S (fun v S1 => v = (.bool p.1) ∧ S1 = p.2) := by
  unfold J0 at h
  refine q_op (dst := some 20) rfl (fun _ ho => ok_move ho (.tmp rfl)) ?_
  rcases ifc h with ⟨hc9, h⟩ | ⟨hc9, h⟩
  · refine q_op_g (t := 20) (dst := some 21) rfl rfl rfl hc9 (fun _ ho => ok_move ho (.tmp rfl)) ?_
    obtain ⟨p10, hp10, h⟩ := bindo h
    refine q_call_g (t := 20) (dst := some 22) rfl rfl rfl hc9 (.func _) (.cons (.tmp rfl) Evs.nil) (HInv.static valid_User.at_ valid_User.body (valid_User.snd  hp10)) ?_
    rintro _ _ ⟨rfl, rfl⟩
    refine q_op_g (t := 20) (dst := some 23) rfl rfl rfl hc9 (fun _ ho => ok_move ho (.tmp rfl)) ?_
    try dsimp only [HAct.put, List.set_cons_zero, List.set_cons_succ]
    obtain ⟨p11, hp11, h⟩ := bindo h
    refine q_call_g (t := 20) (dst := some 24) rfl rfl rfl hc9 (.func _) (.cons (.tmp rfl) Evs.nil) (HInv.static rollcallref03_User.at_ rollcallref03_User.body (rollcallref03_User.snd  hp11)) ?_
    rintro _ _ ⟨rfl, rfl⟩
    refine q_op_g (t := 20) (dst := some 25) rfl rfl rfl hc9 (fun _ ho => ok_beq ho tu4 (.inl ⟨rfl, rfl⟩) (.tmp rfl) (.tmp rfl)) ?_
    refine q_op (dst := some 26) rfl (fun _ ho => ok_pick_tt ho (.tmp rfl) hc9 (.tmp rfl)) ?_
    try dsimp only [HAct.put, List.set_cons_zero, List.set_cons_succ]
    exact J1_snd  h
  · refine q_skip (dst := some 21) (t := 20) rfl rfl rfl (bfalse hc9) ?_
    refine q_skip (dst := some 22) (t := 20) rfl rfl rfl (bfalse hc9) ?_
    refine q_skip (dst := some 23) (t := 20) rfl rfl rfl (bfalse hc9) ?_
    try dsimp only [HAct.put, List.set_cons_zero, List.set_cons_succ]
    refine q_skip (dst := some 24) (t := 20) rfl rfl rfl (bfalse hc9) ?_
    refine q_skip (dst := some 25) (t := 20) rfl rfl rfl (bfalse hc9) ?_
    refine q_op (dst := some 26) rfl (fun _ ho => ok_pick_ff ho (.tmp rfl) (bfalse hc9) (.bool _)) ?_
    try dsimp only [HAct.put, List.set_cons_zero, List.set_cons_succ]
    exact J1_snd  h
def f (k : Nat) (x0 : (List UInt8)) (S : HS) : Option ((Bool) × HS) :=
  (Option.bind (rollcalllaw03_awake.f k S) fun p1 =>
  (if (!p1.1) = true then
  some (false, p1.2) else
  (if (List.length x0 : Int) > 100 then
  some (true, p1.2) else
  (Option.bind (valid_Nick.f k x0 p1.2) fun p4 =>
  (Option.bind (rollcallref03_Nick.f k x0) fun p5 =>
  (if (p4.1 == p5) = true then
  (Option.bind (valid_Channel.f k x0 p4.2) fun p7 =>
  (Option.bind (rollcallref03_Channel.f k x0) fun p8 =>
  J0 k x0 (p7.1 == p8) p7.2)) else
  J0 k x0 false p4.2))))))
theorem snd {k : Nat} {x0 : (List UInt8)} {S : HS}  {p : (Bool) × HS} (h : f k x0 S = some p) : HCall Try.prog base W0 β0 4 [(.str x0)] S (fun v S1 => v = (.bool p.1) ∧ S1 = p.2) := by
  unfold f at h
  refine HCall.of_run at_.at_ body ?_
  show HRun Try.prog base W0 β0 4 none [.code c0] ⟨[(.str x0), .tup [], .tup [], .tup [], .tup [], .tup [], .tup [], .tup [], .tup [], .tup [], .tup [], .tup [], .tup [], .tup [], .tup [], .tup [], .tup [], .tup [], .tup [], .tup [], .tup [], .tup [], .tup [], .tup [], .tup [], .tup [], .tup []], []⟩ S _
  refine q_seq e0 ?_
  refine q_region e1 rfl ?_
  refine q_op (dst := some 2) rfl (fun _ ho => ok_assign ho (.bool _)) ?_
  refine hr_region_end ?_
  try dsimp only [HAct.put, List.set_cons_zero, List.set_cons_succ]
  refine q_seq e2 ?_
  refine q_seq e3 ?_
  refine q_region e4 rfl ?_
  obtain ⟨p1, hp1, h⟩ := bindo h
  refine q_call (dst := some 3) rfl (.func _) Evs.nil (HInv.static rollcalllaw03_awake.at_ rollcalllaw03_awake.body (rollcalllaw03_awake.snd  hp1)) ?_
  rintro _ _ ⟨rfl, rfl⟩
  refine q_op (dst := some 4) rfl (fun _ ho => ok_not ho (.tmp rfl)) ?_
  refine hr_region_end ?_
  try dsimp only [HAct.put, List.set_cons_zero, List.set_cons_succ]
  rcases ifc h with ⟨hc2, h⟩ | ⟨hc2, h⟩
  · refine q_cond_t e5 (.tmp rfl) hc2 ?_
    refine q_seq e6 ?_
    refine q_region e7 rfl ?_
    refine q_op (dst := some 2) rfl (fun _ ho => ok_assign ho (.bool _)) ?_
    refine hr_region_end ?_
    try dsimp only [HAct.put, List.set_cons_zero, List.set_cons_succ]
    cases h
    exact q_ret e8 at_.at_ rfl (res1 rfl rfl) ⟨rfl, rfl⟩
  · refine q_cond_f e5 (.tmp rfl) (bfalse hc2) ?_
    refine q_skipc e9 ?_
    refine q_seq e10 ?_
    refine q_seq e11 ?_
    refine q_region e12 rfl ?_
    refine q_op (dst := some 5) rfl (fun _ ho => ok_move ho (.tmp rfl)) ?_
    refine q_op (dst := some 6) rfl (fun _ ho => ok_len_str ho rfl tu9 (.tmp rfl)) ?_
    refine q_op (dst := some 7) rfl (fun _ ho => ok_ibin ho (.tmp rfl) (.int _ _) rfl) ?_
    refine hr_region_end ?_
    try dsimp only [HAct.put, List.set_cons_zero, List.set_cons_succ]
    rcases ifc h with ⟨hc3, h⟩ | ⟨hc3, h⟩
    · refine q_cond_t e13 (.tmp rfl) (decide_eq_true hc3) ?_
      refine q_seq e14 ?_
      refine q_region e15 rfl ?_
      refine q_op (dst := some 2) rfl (fun _ ho => ok_assign ho (.bool _)) ?_
      refine hr_region_end ?_
      try dsimp only [HAct.put, List.set_cons_zero, List.set_cons_succ]
      cases h
      exact q_ret e16 at_.at_ rfl (res1 rfl rfl) ⟨rfl, rfl⟩
    · refine q_cond_f e13 (.tmp rfl) (decide_eq_false hc3) ?_
      refine q_skipc e17 ?_
      refine q_seq e18 ?_
      refine q_region e19 rfl ?_
      refine q_op (dst := some 8) rfl (fun _ ho => ok_move ho (.tmp rfl)) ?_
      obtain ⟨p4, hp4, h⟩ := bindo h
      refine q_call (dst := some 9) rfl (.func _) (.cons (.tmp rfl) Evs.nil) (HInv.static valid_Nick.at_ valid_Nick.body (valid_Nick.snd  hp4)) ?_
      rintro _ _ ⟨rfl, rfl⟩
      refine q_op (dst := some 10) rfl (fun _ ho => ok_move ho (.tmp rfl)) ?_
      obtain ⟨p5, hp5, h⟩ := bindo h
      refine q_call (dst := some 11) rfl (.func _) (.cons (.tmp rfl) Evs.nil) (HInv.static rollcallref03_Nick.at_ rollcallref03_Nick.body (rollcallref03_Nick.snd  hp5)) ?_
      rintro _ _ ⟨rfl, rfl⟩
      try dsimp only [HAct.put, List.set_cons_zero, List.set_cons_succ]
      refine q_op (dst := some 12) rfl (fun _ ho => ok_beq ho tu4 (.inl ⟨rfl, rfl⟩) (.tmp rfl) (.tmp rfl)) ?_
      refine q_op (dst := some 13) rfl (fun _ ho => ok_move ho (.tmp rfl)) ?_
      rcases ifc h with ⟨hc6, h⟩ | ⟨hc6, h⟩
      · refine q_op_g (t := 13) (dst := some 14) rfl rfl rfl hc6 (fun _ ho => ok_move ho (.tmp rfl)) ?_
        obtain ⟨p7, hp7, h⟩ := bindo h
        refine q_call_g (t := 13) (dst := some 15) rfl rfl rfl hc6 (.func _) (.cons (.tmp rfl) Evs.nil) (HInv.static valid_Channel.at_ valid_Channel.body (valid_Channel.snd  hp7)) ?_
        rintro _ _ ⟨rfl, rfl⟩
        try dsimp only [HAct.put, List.set_cons_zero, List.set_cons_succ]
        refine q_op_g (t := 13) (dst := some 16) rfl rfl rfl hc6 (fun _ ho => ok_move ho (.tmp rfl)) ?_
        obtain ⟨p8, hp8, h⟩ := bindo h
        refine q_call_g (t := 13) (dst := some 17) rfl rfl rfl hc6 (.func _) (.cons (.tmp rfl) Evs.nil) (HInv.static rollcallref03_Channel.at_ rollcallref03_Channel.body (rollcallref03_Channel.snd  hp8)) ?_
        rintro _ _ ⟨rfl, rfl⟩
        refine q_op_g (t := 13) (dst := some 18) rfl rfl rfl hc6 (fun _ ho => ok_beq ho tu4 (.inl ⟨rfl, rfl⟩) (.tmp rfl) (.tmp rfl)) ?_
        refine q_op (dst := some 19) rfl (fun _ ho => ok_pick_tt ho (.tmp rfl) hc6 (.tmp rfl)) ?_
        try dsimp only [HAct.put, List.set_cons_zero, List.set_cons_succ]
        try dsimp only [HAct.put, List.set_cons_zero, List.set_cons_succ]
        exact J0_snd  h
      · refine q_skip (dst := some 14) (t := 13) rfl rfl rfl (bfalse hc6) ?_
        refine q_skip (dst := some 15) (t := 13) rfl rfl rfl (bfalse hc6) ?_
        try dsimp only [HAct.put, List.set_cons_zero, List.set_cons_succ]
        refine q_skip (dst := some 16) (t := 13) rfl rfl rfl (bfalse hc6) ?_
        refine q_skip (dst := some 17) (t := 13) rfl rfl rfl (bfalse hc6) ?_
        refine q_skip (dst := some 18) (t := 13) rfl rfl rfl (bfalse hc6) ?_
        refine q_op (dst := some 19) rfl (fun _ ho => ok_pick_ff ho (.tmp rfl) (bfalse hc6) (.bool _)) ?_
        try dsimp only [HAct.put, List.set_cons_zero, List.set_cons_succ]
        try dsimp only [HAct.put, List.set_cons_zero, List.set_cons_succ]
        exact J0_snd  h
end
end rollcalllaw03_ValidNames
namespace valid_Host
abbrev id : Nat := 16
theorem at_ : FnAt Try.prog 16 Try.f16 := ⟨Try.func16, by kernel_rfl⟩
noncomputable def c0 : Code := (Try.f16.body).getD .skip
noncomputable def c1 : Code := match c0 with | .seq x _ => x | _ => .skip
noncomputable def c2 : Code := match c0 with | .seq _ x => x | _ => .skip
noncomputable def c3 : Code := match c2 with | .seq x _ => x | _ => .skip
noncomputable def c4 : Code := match c2 with | .seq _ x => x | _ => .skip
theorem e0 : c0 = .seq c1 c2 := by kernel_rfl
noncomputable def r1 : Array Oper := match c1 with | .region _ x _ => x | _ => #[]
theorem e1 : c1 = .region 0 r1 false := by kernel_rfl
theorem e2 : c2 = .seq c3 c4 := by kernel_rfl
noncomputable def r3 : Array Oper := match c3 with | .region _ x _ => x | _ => #[]
theorem e3 : c3 = .region 1 r3 false := by kernel_rfl
theorem e4 : c4 = .ret := by kernel_rfl
theorem body : Try.f16.body = some c0 := by kernel_rfl
section
variable {base : Nat} {W0 : World} {β0 : Bt}
def J0 (k : Nat) (y9 : Bool) (S : HS) : Option ((Bool) × HS) :=
  some (y9, S)
theorem J0_snd {k : Nat}  {y9 : Bool} {S : HS} {p : (Bool) × HS} {g0 g1 g2 g3 g4 g5 g6 g7 g8 : HV} (h : J0 k y9 S = some p) : HRun Try.prog base W0 β0 16 none [.inRegion r3 [7], .code c4] ⟨[g0, g1, g2, g3, g4, g5, g6, g7, g8, (.bool y9)], []⟩ S (fun v S1 => v = (.bool p.1) ∧ S1 = p.2) := by
  unfold J0 at h
  refine q_op (dst := some 2) rfl (fun _ ho => ok_assign ho (.tmp rfl)) ?_
  refine hr_region_end ?_
  try dsimp only [HAct.put, List.set_cons_zero, List.set_cons_succ]
  cases h
  exact q_ret e4 at_.at_ rfl (res1 rfl rfl) ⟨rfl, rfl⟩
def f (k : Nat) (x0 : (List UInt8)) (S : HS) : Option ((Bool) × HS) :=
  (Option.bind (valid_all.f k x0 1 63 16 S) fun p1 =>
  (if p1.1 = true then
  (Option.bind (sat x0 0) fun p3 =>
  J0 k (!decide ((UInt8.toNat p3 : Int) = 58)) p1.2) else
  J0 k false p1.2))
theorem snd {k : Nat} {x0 : (List UInt8)} {S : HS}  {p : (Bool) × HS} (h : f k x0 S = some p) : HCall Try.prog base W0 β0 16 [(.str x0)] S (fun v S1 => v = (.bool p.1) ∧ S1 = p.2) := by
  unfold f at h
  refine HCall.of_run at_.at_ body ?_
  show HRun Try.prog base W0 β0 16 none [.code c0] ⟨[(.str x0), .tup [], .tup [], .tup [], .tup [], .tup [], .tup [], .tup [], .tup [], .tup []], []⟩ S _
  refine q_seq e0 ?_
  refine q_region e1 rfl ?_
  refine q_op (dst := some 2) rfl (fun _ ho => ok_assign ho (.bool _)) ?_
  refine hr_region_end ?_
  try dsimp only [HAct.put, List.set_cons_zero, List.set_cons_succ]
  refine q_seq e2 ?_
  refine q_region e3 rfl ?_
  refine q_op (dst := some 3) rfl (fun _ ho => ok_move ho (.tmp rfl)) ?_
  obtain ⟨p1, hp1, h⟩ := bindo h
  refine q_call (dst := some 4) rfl (.func _) (.cons (.tmp rfl) (.cons (.int _ _) (.cons (.int _ _) (.cons (.int _ _) Evs.nil)))) (HInv.static valid_all.at_ valid_all.body (valid_all.snd  hp1)) ?_
  rintro _ _ ⟨rfl, rfl⟩
  refine q_op (dst := some 5) rfl (fun _ ho => ok_move ho (.tmp rfl)) ?_
  rcases ifc h with ⟨hc2, h⟩ | ⟨hc2, h⟩
  · refine q_op_g (t := 5) (dst := some 6) rfl rfl rfl hc2 (fun _ ho => ok_move ho (.tmp rfl)) ?_
    try dsimp only [HAct.put, List.set_cons_zero, List.set_cons_succ]
    obtain ⟨p3, hp3, h⟩ := bindo h
    refine q_op_g (t := 5) (dst := some 7) rfl rfl rfl hc2 (fun _ ho => ok_index_s ho tu9 (.tmp rfl) (.int _ _) hp3) ?_
    refine q_op_g (t := 5) (dst := some 8) rfl rfl rfl hc2 (fun _ ho => ok_ibin ho (.tmp rfl) (.int _ _) rfl) ?_
    refine q_op (dst := some 9) rfl (fun _ ho => ok_pick_tt ho (.tmp rfl) hc2 (.tmp rfl)) ?_
    try dsimp only [HAct.put, List.set_cons_zero, List.set_cons_succ]
    exact J0_snd  h
  · refine q_skip (dst := some 6) (t := 5) rfl rfl rfl (bfalse hc2) ?_
    try dsimp only [HAct.put, List.set_cons_zero, List.set_cons_succ]
    refine q_skip (dst := some 7) (t := 5) rfl rfl rfl (bfalse hc2) ?_
    refine q_skip (dst := some 8) (t := 5) rfl rfl rfl (bfalse hc2) ?_
    refine q_op (dst := some 9) rfl (fun _ ho => ok_pick_ff ho (.tmp rfl) (bfalse hc2) (.bool _)) ?_
    try dsimp only [HAct.put, List.set_cons_zero, List.set_cons_succ]
    exact J0_snd  h
end
end valid_Host
namespace rollcallref03_Host
abbrev id : Nat := 17
theorem at_ : FnAt Try.prog 17 Try.f17 := ⟨Try.func17, by kernel_rfl⟩
noncomputable def c0 : Code := (Try.f17.body).getD .skip
noncomputable def c1 : Code := match c0 with | .seq x _ => x | _ => .skip
noncomputable def c2 : Code := match c0 with | .seq _ x => x | _ => .skip
noncomputable def c3 : Code := match c2 with | .seq x _ => x | _ => .skip
noncomputable def c4 : Code := match c3 with | .seq x _ => x | _ => .skip
noncomputable def c5 : Code := match c3 with | .seq _ x => x | _ => .skip
noncomputable def c6 : Code := match c5 with | .block _ x => x | _ => .skip
noncomputable def c7 : Code := match c6 with | .loop x => x | _ => .skip
noncomputable def c8 : Code := match c7 with | .seq x _ => x | _ => .skip
noncomputable def c9 : Code := match c8 with | .seq x _ => x | _ => .skip
noncomputable def c10 : Code := match c8 with | .seq _ x => x | _ => .skip
noncomputable def c11 : Code := match c10 with | .cond _ x _ => x | _ => .skip
noncomputable def c12 : Code := match c10 with | .cond _ _ x => x | _ => .skip
noncomputable def c13 : Code := match c7 with | .seq _ x => x | _ => .skip
noncomputable def c14 : Code := match c13 with | .seq x _ => x | _ => .skip
noncomputable def c15 : Code := match c14 with | .block _ x => x | _ => .skip
noncomputable def c16 : Code := match c15 with | .seq x _ => x | _ => .skip
noncomputable def c17 : Code := match c15 with | .seq _ x => x | _ => .skip
noncomputable def c18 : Code := match c17 with | .seq x _ => x | _ => .skip
noncomputable def c19 : Code := match c17 with | .seq _ x => x | _ => .skip
noncomputable def c20 : Code := match c19 with | .cond _ x _ => x | _ => .skip
noncomputable def c21 : Code := match c20 with | .seq x _ => x | _ => .skip
noncomputable def c22 : Code := match c20 with | .seq _ x => x | _ => .skip
noncomputable def c23 : Code := match c19 with | .cond _ _ x => x | _ => .skip
noncomputable def c24 : Code := match c13 with | .seq _ x => x | _ => .skip
noncomputable def c25 : Code := match c2 with | .seq _ x => x | _ => .skip
noncomputable def c26 : Code := match c25 with | .seq x _ => x | _ => .skip
noncomputable def c27 : Code := match c25 with | .seq _ x => x | _ => .skip
theorem e0 : c0 = .seq c1 c2 := by kernel_rfl
noncomputable def r1 : Array Oper := match c1 with | .region _ x _ => x | _ => #[]
theorem e1 : c1 = .region 0 r1 false := by kernel_rfl
theorem e2 : c2 = .seq c3 c25 := by kernel_rfl
theorem e3 : c3 = .seq c4 c5 := by kernel_rfl
noncomputable def r4 : Array Oper := match c4 with | .region _ x _ => x | _ => #[]
theorem e4 : c4 = .region 1 r4 false := by kernel_rfl
theorem e5 : c5 = .block 0 c6 := by kernel_rfl
theorem e6 : c6 = .loop c7 := by kernel_rfl
theorem e7 : c7 = .seq c8 c13 := by kernel_rfl
theorem e8 : c8 = .seq c9 c10 := by kernel_rfl
noncomputable def r9 : Array Oper := match c9 with | .region _ x _ => x | _ => #[]
theorem e9 : c9 = .region 2 r9 false := by kernel_rfl
theorem e10 : c10 = .cond (.tmp 8) c11 c12 := by kernel_rfl
theorem e11 : c11 = .skip := by kernel_rfl
theorem e12 : c12 = .exit 0 := by kernel_rfl
theorem e13 : c13 = .seq c14 c24 := by kernel_rfl
theorem e14 : c14 = .block 1 c15 := by kernel_rfl
theorem e15 : c15 = .seq c16 c17 := by kernel_rfl
noncomputable def r16 : Array Oper := match c16 with | .region _ x _ => x | _ => #[]
theorem e16 : c16 = .region 4 r16 false := by kernel_rfl
theorem e17 : c17 = .seq c18 c19 := by kernel_rfl
noncomputable def r18 : Array Oper := match c18 with | .region _ x _ => x | _ => #[]
theorem e18 : c18 = .region 5 r18 false := by kernel_rfl
theorem e19 : c19 = .cond (.tmp 37) c20 c23 := by kernel_rfl
theorem e20 : c20 = .seq c21 c22 := by kernel_rfl
noncomputable def r21 : Array Oper := match c21 with | .region _ x _ => x | _ => #[]
theorem e21 : c21 = .region 6 r21 false := by kernel_rfl
theorem e22 : c22 = .ret := by kernel_rfl
theorem e23 : c23 = .skip := by kernel_rfl
noncomputable def r24 : Array Oper := match c24 with | .region _ x _ => x | _ => #[]
theorem e24 : c24 = .region 3 r24 false := by kernel_rfl
theorem e25 : c25 = .seq c26 c27 := by kernel_rfl
noncomputable def r26 : Array Oper := match c26 with | .region _ x _ => x | _ => #[]
theorem e26 : c26 = .region 7 r26 false := by kernel_rfl
theorem e27 : c27 = .ret := by kernel_rfl
theorem body : Try.f17.body = some c0 := by kernel_rfl
section
variable {base : Nat} {W0 : World} {β0 : Bt}
def J5 (k : Nat) (rec0 : (List UInt8) → Int → Option (Bool)) (y0 : (List UInt8)) (y3 : Int) (y37 : Bool) : Option (Bool) :=
  (if y37 = true then
  some false else
  rec0 y0 (w64 (y3 + 1)))
theorem J5_snd {k : Nat} {rec0 : (List UInt8) → Int → Option (Bool)} (hrec0 : ∀ ⦃y0 : (List UInt8)⦄ ⦃y3 : Int⦄ ⦃S : HS⦄ ⦃p : Bool⦄ ⦃g1 g2 g4 g5 g6 g7 g8 g9 g10 g11 g12 g13 g14 g15 g16 g17 g18 g19 g20 g21 g22 g23 g24 g25 g26 g27 g28 g29 g30 g31 g32 g33 g34 g35 g36 g37 g38 g39 g40 g41 g42 g43 g44 g45 : HV⦄, rec0 y0 y3 = some p → HRun Try.prog base W0 β0 17 none [.inLoop c7, .inBlock 0, .code c25] ⟨[(.str y0), g1, g2, (.int .i64 y3), g4, g5, g6, g7, g8, g9, g10, g11, g12, g13, g14, g15, g16, g17, g18, g19, g20, g21, g22, g23, g24, g25, g26, g27, g28, g29, g30, g31, g32, g33, g34, g35, g36, g37, g38, g39, g40, g41, g42, g43, g44, g45], []⟩ S (fun v S1 => v = (.bool p) ∧ S1 = S)) {y0 : (List UInt8)} {y3 : Int} {y37 : Bool} {S : HS} {p : Bool} {g1 g2 g4 g5 g6 g7 g8 g9 g10 g11 g12 g13 g14 g15 g16 g17 g18 g19 g20 g21 g22 g23 g24 g25 g26 g27 g28 g29 g30 g31 g32 g33 g34 g35 g36 g38 g39 g40 g41 g42 g43 g44 g45 : HV} (h : J5 k rec0 y0 y3 y37 = some p) : HRun Try.prog base W0 β0 17 none [.code c19, .inBlock 1, .code c24, .inLoop c7, .inBlock 0, .code c25] ⟨[(.str y0), g1, g2, (.int .i64 y3), g4, g5, g6, g7, g8, g9, g10, g11, g12, g13, g14, g15, g16, g17, g18, g19, g20, g21, g22, g23, g24, g25, g26, g27, g28, g29, g30, g31, g32, g33, g34, g35, g36, (.bool y37), g38, g39, g40, g41, g42, g43, g44, g45], []⟩ S (fun v S1 => v = (.bool p) ∧ S1 = S) := by
  unfold J5 at h
  rcases ifc h with ⟨hc11, h⟩ | ⟨hc11, h⟩
  · refine q_cond_t e19 (.tmp rfl) hc11 ?_
    refine q_seq e20 ?_
    refine q_region e21 rfl ?_
    refine q_op (dst := some 2) rfl (fun _ ho => ok_assign ho (.bool _)) ?_
    refine hr_region_end ?_
    try dsimp only [HAct.put, List.set_cons_zero, List.set_cons_succ]
    cases h
    exact q_ret e22 at_.at_ rfl (res1 rfl rfl) ⟨rfl, rfl⟩
  · refine q_cond_f e19 (.tmp rfl) (bfalse hc11) ?_
    refine q_skipc e23 ?_
    refine hr_inBlock ?_
    refine q_region e24 rfl ?_
    refine q_op (dst := some 9) rfl (fun _ ho => ok_move ho (.tmp rfl)) ?_
    refine q_op (dst := some 10) rfl (fun _ ho => ok_ibin ho (.tmp rfl) (.int _ _) rfl) ?_
    refine q_op (dst := some 3) rfl (fun _ ho => ok_assign ho (.tmp rfl)) ?_
    refine hr_region_end ?_
    try dsimp only [HAct.put, List.set_cons_zero, List.set_cons_succ]
    try dsimp only [HAct.put, List.set_cons_zero, List.set_cons_succ]
    exact hrec0 h
def J4 (k : Nat) (rec0 : (List UInt8) → Int → Option (Bool)) (y0 : (List UInt8)) (y3 : Int) (y30 : Bool) (y36 : Bool) : Option (Bool) :=
  (if y30 = true then
  J5 k rec0 y0 y3 y36 else
  J5 k rec0 y0 y3 false)
theorem J4_snd {k : Nat} {rec0 : (List UInt8) → Int → Option (Bool)} (hrec0 : ∀ ⦃y0 : (List UInt8)⦄ ⦃y3 : Int⦄ ⦃S : HS⦄ ⦃p : Bool⦄ ⦃g1 g2 g4 g5 g6 g7 g8 g9 g10 g11 g12 g13 g14 g15 g16 g17 g18 g19 g20 g21 g22 g23 g24 g25 g26 g27 g28 g29 g30 g31 g32 g33 g34 g35 g36 g37 g38 g39 g40 g41 g42 g43 g44 g45 : HV⦄, rec0 y0 y3 = some p → HRun Try.prog base W0 β0 17 none [.inLoop c7, .inBlock 0, .code c25] ⟨[(.str y0), g1, g2, (.int .i64 y3), g4, g5, g6, g7, g8, g9, g10, g11, g12, g13, g14, g15, g16, g17, g18, g19, g20, g21, g22, g23, g24, g25, g26, g27, g28, g29, g30, g31, g32, g33, g34, g35, g36, g37, g38, g39, g40, g41, g42, g43, g44, g45], []⟩ S (fun v S1 => v = (.bool p) ∧ S1 = S)) {y0 : (List UInt8)} {y3 : Int} {y30 : Bool} {y36 : Bool} {S : HS} {p : Bool} {g1 g2 g4 g5 g6 g7 g8 g9 g10 g11 g12 g13 g14 g15 g16 g17 g18 g19 g20 g21 g22 g23 g24 g25 g26 g27 g28 g29 g31 g32 g33 g34 g35 g37 g38 g39 g40 g41 g42 g43 g44 g45 : HV} (h : J4 k rec0 y0 y3 y30 y36 = some p) : HRun Try.prog base W0 β0 17 none [.inRegion r18 [23], .code c19, .inBlock 1, .code c24, .inLoop c7, .inBlock 0, .code c25] ⟨[(.str y0), g1, g2, (.int .i64 y3), g4, g5, g6, g7, g8, g9, g10, g11, g12, g13, g14, g15, g16, g17, g18, g19, g20, g21, g22, g23, g24, g25, g26, g27, g28, g29, (.bool y30), g31, g32, g33, g34, g35, (.bool y36), g37, g38, g39, g40, g41, g42, g43, g44, g45], []⟩ S (fun v S1 => v = (.bool p) ∧ S1 = S) := by
  unfold J4 at h
  rcases ifc h with ⟨hc10, h⟩ | ⟨hc10, h⟩
  · refine q_op (dst := some 37) rfl (fun _ ho => ok_pick_tt ho (.tmp rfl) hc10 (.tmp rfl)) ?_
    refine hr_region_end ?_
    try dsimp only [HAct.put, List.set_cons_zero, List.set_cons_succ]
    try dsimp only [HAct.put, List.set_cons_zero, List.set_cons_succ]
    exact J5_snd hrec0 h
  · refine q_op (dst := some 37) rfl (fun _ ho => ok_pick_ff ho (.tmp rfl) (bfalse hc10) (.bool _)) ?_
    refine hr_region_end ?_
    try dsimp only [HAct.put, List.set_cons_zero, List.set_cons_succ]
    try dsimp only [HAct.put, List.set_cons_zero, List.set_cons_succ]
    exact J5_snd hrec0 h
def J3 (k : Nat) (rec0 : (List UInt8) → Int → Option (Bool)) (y0 : (List UInt8)) (y3 : Int) (y4 : Int) (y29 : Bool) : Option (Bool) :=
  (if y29 = true then
  (if (!decide (y4 = 58)) = true then
  J4 k rec0 y0 y3 y29 true else
  J4 k rec0 y0 y3 y29 (decide (y3 = 0))) else
  J5 k rec0 y0 y3 false)
theorem J3_snd {k : Nat} {rec0 : (List UInt8) → Int → Option (Bool)} (hrec0 : ∀ ⦃y0 : (List UInt8)⦄ ⦃y3 : Int⦄ ⦃S : HS⦄ ⦃p : Bool⦄ ⦃g1 g2 g4 g5 g6 g7 g8 g9 g10 g11 g12 g13 g14 g15 g16 g17 g18 g19 g20 g21 g22 g23 g24 g25 g26 g27 g28 g29 g30 g31 g32 g33 g34 g35 g36 g37 g38 g39 g40 g41 g42 g43 g44 g45 : HV⦄, rec0 y0 y3 = some p → HRun Try.prog base W0 β0 17 none [.inLoop c7, .inBlock 0, .code c25] ⟨[(.str y0), g1, g2, (.int .i64 y3), g4, g5, g6, g7, g8, g9, g10, g11, g12, g13, g14, g15, g16, g17, g18, g19, g20, g21, g22, g23, g24, g25, g26, g27, g28, g29, g30, g31, g32, g33, g34, g35, g36, g37, g38, g39, g40, g41, g42, g43, g44, g45], []⟩ S (fun v S1 => v = (.bool p) ∧ S1 = S)) {y0 : (List UInt8)} {y3 : Int} {y4 : Int} {y29 : Bool} {S : HS} {p : Bool} {g1 g2 g5 g6 g7 g8 g9 g10 g11 g12 g13 g14 g15 g16 g17 g18 g19 g20 g21 g22 g23 g24 g25 g26 g27 g28 g30 g31 g32 g33 g34 g35 g36 g37 g38 g39 g40 g41 g42 g43 g44 g45 : HV} (h : J3 k rec0 y0 y3 y4 y29 = some p) : HRun Try.prog base W0 β0 17 none [.inRegion r18 [16, 17, 18, 19, 20, 21, 22, 23], .code c19, .inBlock 1, .code c24, .inLoop c7, .inBlock 0, .code c25] ⟨[(.str y0), g1, g2, (.int .i64 y3), (.int .u8 y4), g5, g6, g7, g8, g9, g10, g11, g12, g13, g14, g15, g16, g17, g18, g19, g20, g21, g22, g23, g24, g25, g26, g27, g28, (.bool y29), g30, g31, g32, g33, g34, g35, g36, g37, g38, g39, g40, g41, g42, g43, g44, g45], []⟩ S (fun v S1 => v = (.bool p) ∧ S1 = S) := by
  unfold J3 at h
  refine q_op (dst := some 30) rfl (fun _ ho => ok_move ho (.tmp rfl)) ?_
  rcases ifc h with ⟨hc8, h⟩ | ⟨hc8, h⟩
  · refine q_op_g (t := 30) (dst := some 31) rfl rfl rfl hc8 (fun _ ho => ok_move ho (.tmp rfl)) ?_
    refine q_op_g (t := 30) (dst := some 32) rfl rfl rfl hc8 (fun _ ho => ok_ibin ho (.tmp rfl) (.int _ _) rfl) ?_
    refine q_op_g (t := 30) (dst := some 33) rfl rfl rfl hc8 (fun _ ho => ok_move ho (.tmp rfl)) ?_
    try dsimp only [HAct.put, List.set_cons_zero, List.set_cons_succ]
    rcases ifc h with ⟨hc9, h⟩ | ⟨hc9, h⟩
    · refine q_skip (dst := some 34) (t := 33) rfl rfl rfl hc9 ?_
      refine q_skip (dst := some 35) (t := 33) rfl rfl rfl hc9 ?_
      refine q_op_g (t := 30) (dst := some 36) rfl rfl rfl hc8 (fun _ ho => ok_pick_tt ho (.tmp rfl) hc9 (.bool _)) ?_
      try dsimp only [HAct.put, List.set_cons_zero, List.set_cons_succ]
      exact J4_snd hrec0 h
    · refine q_op_g (t := 33) (dst := some 34) rfl rfl rfl (bfalse hc9) (fun _ ho => ok_move ho (.tmp rfl)) ?_
      refine q_op_g (t := 33) (dst := some 35) rfl rfl rfl (bfalse hc9) (fun _ ho => ok_ibin ho (.tmp rfl) (.int _ _) rfl) ?_
      refine q_op_g (t := 30) (dst := some 36) rfl rfl rfl hc8 (fun _ ho => ok_pick_ff ho (.tmp rfl) (bfalse hc9) (.tmp rfl)) ?_
      try dsimp only [HAct.put, List.set_cons_zero, List.set_cons_succ]
      exact J4_snd hrec0 h
  · refine q_skip (dst := some 31) (t := 30) rfl rfl rfl (bfalse hc8) ?_
    refine q_skip (dst := some 32) (t := 30) rfl rfl rfl (bfalse hc8) ?_
    refine q_skip (dst := some 33) (t := 30) rfl rfl rfl (bfalse hc8) ?_
    try dsimp only [HAct.put, List.set_cons_zero, List.set_cons_succ]
    refine q_skip_u (dst := some 34) (t := 33) rfl rfl rfl ?_
    refine q_skip_u (dst := some 35) (t := 33) rfl rfl rfl ?_
    refine q_skip (dst := some 36) (t := 30) rfl rfl rfl (bfalse hc8) ?_
    refine q_op (dst := some 37) rfl (fun _ ho => ok_pick_ff ho (.tmp rfl) (bfalse hc8) (.bool _)) ?_
    refine hr_region_end ?_
    try dsimp only [HAct.put, List.set_cons_zero, List.set_cons_succ]
    try dsimp only [HAct.put, List.set_cons_zero, List.set_cons_succ]
    exact J5_snd hrec0 h
def J2 (k : Nat) (rec0 : (List UInt8) → Int → Option (Bool)) (y0 : (List UInt8)) (y3 : Int) (y4 : Int) (y25 : Bool) : Option (Bool) :=
  (if y25 = true then
  J3 k rec0 y0 y3 y4 (!decide (y4 = 45)) else
  J3 k rec0 y0 y3 y4 false)
theorem J2_snd {k : Nat} {rec0 : (List UInt8) → Int → Option (Bool)} (hrec0 : ∀ ⦃y0 : (List UInt8)⦄ ⦃y3 : Int⦄ ⦃S : HS⦄ ⦃p : Bool⦄ ⦃g1 g2 g4 g5 g6 g7 g8 g9 g10 g11 g12 g13 g14 g15 g16 g17 g18 g19 g20 g21 g22 g23 g24 g25 g26 g27 g28 g29 g30 g31 g32 g33 g34 g35 g36 g37 g38 g39 g40 g41 g42 g43 g44 g45 : HV⦄, rec0 y0 y3 = some p → HRun Try.prog base W0 β0 17 none [.inLoop c7, .inBlock 0, .code c25] ⟨[(.str y0), g1, g2, (.int .i64 y3), g4, g5, g6, g7, g8, g9, g10, g11, g12, g13, g14, g15, g16, g17, g18, g19, g20, g21, g22, g23, g24, g25, g26, g27, g28, g29, g30, g31, g32, g33, g34, g35, g36, g37, g38, g39, g40, g41, g42, g43, g44, g45], []⟩ S (fun v S1 => v = (.bool p) ∧ S1 = S)) {y0 : (List UInt8)} {y3 : Int} {y4 : Int} {y25 : Bool} {S : HS} {p : Bool} {g1 g2 g5 g6 g7 g8 g9 g10 g11 g12 g13 g14 g15 g16 g17 g18 g19 g20 g21 g22 g23 g24 g26 g27 g28 g29 g30 g31 g32 g33 g34 g35 g36 g37 g38 g39 g40 g41 g42 g43 g44 g45 : HV} (h : J2 k rec0 y0 y3 y4 y25 = some p) : HRun Try.prog base W0 β0 17 none [.inRegion r18 [12, 13, 14, 15, 16, 17, 18, 19, 20, 21, 22, 23], .code c19, .inBlock 1, .code c24, .inLoop c7, .inBlock 0, .code c25] ⟨[(.str y0), g1, g2, (.int .i64 y3), (.int .u8 y4), g5, g6, g7, g8, g9, g10, g11, g12, g13, g14, g15, g16, g17, g18, g19, g20, g21, g22, g23, g24, (.bool y25), g26, g27, g28, g29, g30, g31, g32, g33, g34, g35, g36, g37, g38, g39, g40, g41, g42, g43, g44, g45], []⟩ S (fun v S1 => v = (.bool p) ∧ S1 = S) := by
  unfold J2 at h
  refine q_op (dst := some 26) rfl (fun _ ho => ok_move ho (.tmp rfl)) ?_
  rcases ifc h with ⟨hc7, h⟩ | ⟨hc7, h⟩
  · refine q_op_g (t := 26) (dst := some 27) rfl rfl rfl hc7 (fun _ ho => ok_move ho (.tmp rfl)) ?_
    refine q_op_g (t := 26) (dst := some 28) rfl rfl rfl hc7 (fun _ ho => ok_ibin ho (.tmp rfl) (.int _ _) rfl) ?_
    refine q_op (dst := some 29) rfl (fun _ ho => ok_pick_tt ho (.tmp rfl) hc7 (.tmp rfl)) ?_
    try dsimp only [HAct.put, List.set_cons_zero, List.set_cons_succ]
    try dsimp only [HAct.put, List.set_cons_zero, List.set_cons_succ]
    exact J3_snd hrec0 h
  · refine q_skip (dst := some 27) (t := 26) rfl rfl rfl (bfalse hc7) ?_
    refine q_skip (dst := some 28) (t := 26) rfl rfl rfl (bfalse hc7) ?_
    refine q_op (dst := some 29) rfl (fun _ ho => ok_pick_ff ho (.tmp rfl) (bfalse hc7) (.bool _)) ?_
    try dsimp only [HAct.put, List.set_cons_zero, List.set_cons_succ]
    try dsimp only [HAct.put, List.set_cons_zero, List.set_cons_succ]
    exact J3_snd hrec0 h
def J1 (k : Nat) (rec0 : (List UInt8) → Int → Option (Bool)) (y0 : (List UInt8)) (y3 : Int) (y4 : Int) (y21 : Bool) : Option (Bool) :=
  (if y21 = true then
  J2 k rec0 y0 y3 y4 (!decide (y4 = 46)) else
  J2 k rec0 y0 y3 y4 false)
theorem J1_snd {k : Nat} {rec0 : (List UInt8) → Int → Option (Bool)} (hrec0 : ∀ ⦃y0 : (List UInt8)⦄ ⦃y3 : Int⦄ ⦃S : HS⦄ ⦃p : Bool⦄ ⦃g1 g2 g4 g5 g6 g7 g8 g9 g10 g11 g12 g13 g14 g15 g16 g17 g18 g19 g20 g21 g22 g23 g24 g25 g26 g27 g28 g29 g30 g31 g32 g33 g34 g35 g36 g37 g38 g39 g40 g41 g42 g43 g44 g45 : HV⦄, rec0 y0 y3 = some p → HRun Try.prog base W0 β0 17 none [.inLoop c7, .inBlock 0, .code c25] ⟨[(.str y0), g1, g2, (.int .i64 y3), g4, g5, g6, g7, g8, g9, g10, g11, g12, g13, g14, g15, g16, g17, g18, g19, g20, g21, g22, g23, g24, g25, g26, g27, g28, g29, g30, g31, g32, g33, g34, g35, g36, g37, g38, g39, g40, g41, g42, g43, g44, g45], []⟩ S (fun v S1 => v = (.bool p) ∧ S1 = S)) {y0 : (List UInt8)} {y3 : Int} {y4 : Int} {y21 : Bool} {S : HS} {p : Bool} {g1 g2 g5 g6 g7 g8 g9 g10 g11 g12 g13 g14 g15 g16 g17 g18 g19 g20 g22 g23 g24 g25 g26 g27 g28 g29 g30 g31 g32 g33 g34 g35 g36 g37 g38 g39 g40 g41 g42 g43 g44 g45 : HV} (h : J1 k rec0 y0 y3 y4 y21 = some p) : HRun Try.prog base W0 β0 17 none [.inRegion r18 [8, 9, 10, 11, 12, 13, 14, 15, 16, 17, 18, 19, 20, 21, 22, 23], .code c19, .inBlock 1, .code c24, .inLoop c7, .inBlock 0, .code c25] ⟨[(.str y0), g1, g2, (.int .i64 y3), (.int .u8 y4), g5, g6, g7, g8, g9, g10, g11, g12, g13, g14, g15, g16, g17, g18, g19, g20, (.bool y21), g22, g23, g24, g25, g26, g27, g28, g29, g30, g31, g32, g33, g34, g35, g36, g37, g38, g39, g40, g41, g42, g43, g44, g45], []⟩ S (fun v S1 => v = (.bool p) ∧ S1 = S) := by
  unfold J1 at h
  refine q_op (dst := some 22) rfl (fun _ ho => ok_move ho (.tmp rfl)) ?_
  rcases ifc h with ⟨hc6, h⟩ | ⟨hc6, h⟩
  · refine q_op_g (t := 22) (dst := some 23) rfl rfl rfl hc6 (fun _ ho => ok_move ho (.tmp rfl)) ?_
    refine q_op_g (t := 22) (dst := some 24) rfl rfl rfl hc6 (fun _ ho => ok_ibin ho (.tmp rfl) (.int _ _) rfl) ?_
    refine q_op (dst := some 25) rfl (fun _ ho => ok_pick_tt ho (.tmp rfl) hc6 (.tmp rfl)) ?_
    try dsimp only [HAct.put, List.set_cons_zero, List.set_cons_succ]
    try dsimp only [HAct.put, List.set_cons_zero, List.set_cons_succ]
    exact J2_snd hrec0 h
  · refine q_skip (dst := some 23) (t := 22) rfl rfl rfl (bfalse hc6) ?_
    refine q_skip (dst := some 24) (t := 22) rfl rfl rfl (bfalse hc6) ?_
    refine q_op (dst := some 25) rfl (fun _ ho => ok_pick_ff ho (.tmp rfl) (bfalse hc6) (.bool _)) ?_
    try dsimp only [HAct.put, List.set_cons_zero, List.set_cons_succ]
    try dsimp only [HAct.put, List.set_cons_zero, List.set_cons_succ]
    exact J2_snd hrec0 h
def J6 (k : Nat) (y45 : Bool) : Option (Bool) :=
  some y45
theorem J6_snd {k : Nat}  {y45 : Bool} {S : HS} {p : Bool} {g0 g1 g2 g3 g4 g5 g6 g7 g8 g9 g10 g11 g12 g13 g14 g15 g16 g17 g18 g19 g20 g21 g22 g23 g24 g25 g26 g27 g28 g29 g30 g31 g32 g33 g34 g35 g36 g37 g38 g39 g40 g41 g42 g43 g44 : HV} (h : J6 k y45 = some p) : HRun Try.prog base W0 β0 17 none [.inRegion r26 [8], .code c27] ⟨[g0, g1, g2, g3, g4, g5, g6, g7, g8, g9, g10, g11, g12, g13, g14, g15, g16, g17, g18, g19, g20, g21, g22, g23, g24, g25, g26, g27, g28, g29, g30, g31, g32, g33, g34, g35, g36, g37, g38, g39, g40, g41, g42, g43, g44, (.bool y45)], []⟩ S (fun v S1 => v = (.bool p) ∧ S1 = S) := by
  unfold J6 at h
  refine q_op (dst := some 2) rfl (fun _ ho => ok_assign ho (.tmp rfl)) ?_
  refine hr_region_end ?_
  try dsimp only [HAct.put, List.set_cons_zero, List.set_cons_succ]
  cases h
  exact q_ret e27 at_.at_ rfl (res1 rfl rfl) ⟨rfl, rfl⟩
def L0 (k : Nat) : Nat → (List UInt8) → Int → Option (Bool)
  | 0, _, _ => none
  | n + 1, y0, y3 =>
    (if y3 < (List.length y0 : Int) then
    (Option.bind (sat y0 y3) fun p2 =>
    (Option.bind (rollcallref03_Letter.f (UInt8.toNat p2 : Int)) fun p3 =>
    (if (!p3) = true then
    (Option.bind (rollcallref03_Digit.f (UInt8.toNat p2 : Int)) fun p5 =>
    J1 k (L0 k n) y0 y3 (UInt8.toNat p2 : Int) (!p5)) else
    J1 k (L0 k n) y0 y3 (UInt8.toNat p2 : Int) false))) else
    (if (List.length y0 : Int) ≥ 1 then
    J6 k (decide ((List.length y0 : Int) ≤ 63)) else
    J6 k false))
theorem L0_snd {k : Nat}  : ∀ {n : Nat} ⦃y0 : (List UInt8)⦄ ⦃y3 : Int⦄ ⦃S : HS⦄ ⦃p : Bool⦄ ⦃g1 g2 g4 g5 g6 g7 g8 g9 g10 g11 g12 g13 g14 g15 g16 g17 g18 g19 g20 g21 g22 g23 g24 g25 g26 g27 g28 g29 g30 g31 g32 g33 g34 g35 g36 g37 g38 g39 g40 g41 g42 g43 g44 g45 : HV⦄, L0 k n y0 y3 = some p → HRun Try.prog base W0 β0 17 none [.inLoop c7, .inBlock 0, .code c25] ⟨[(.str y0), g1, g2, (.int .i64 y3), g4, g5, g6, g7, g8, g9, g10, g11, g12, g13, g14, g15, g16, g17, g18, g19, g20, g21, g22, g23, g24, g25, g26, g27, g28, g29, g30, g31, g32, g33, g34, g35, g36, g37, g38, g39, g40, g41, g42, g43, g44, g45], []⟩ S (fun v S1 => v = (.bool p) ∧ S1 = S) := by
  intro n
  induction n with
  | zero => intro _ _ _ _ _ _ _ _ _ _ _ _ _ _ _ _ _ _ _ _ _ _ _ _ _ _ _ _ _ _ _ _ _ _ _ _ _ _ _ _ _ _ _ _ _ _ _ _ h; cases h
  | succ n ih =>
    intro y0 y3 S p g1 g2 g4 g5 g6 g7 g8 g9 g10 g11 g12 g13 g14 g15 g16 g17 g18 g19 g20 g21 g22 g23 g24 g25 g26 g27 g28 g29 g30 g31 g32 g33 g34 g35 g36 g37 g38 g39 g40 g41 g42 g43 g44 g45 h
    simp only [L0] at h
    refine hr_inLoop ?_
    refine q_seq e7 ?_
    refine q_seq e8 ?_
    refine q_region e9 rfl ?_
    refine q_op (dst := some 5) rfl (fun _ ho => ok_move ho (.tmp rfl)) ?_
    refine q_op (dst := some 6) rfl (fun _ ho => ok_move ho (.tmp rfl)) ?_
    refine q_op (dst := some 7) rfl (fun _ ho => ok_len_str ho rfl tu9 (.tmp rfl)) ?_
    refine q_op (dst := some 8) rfl (fun _ ho => ok_ibin ho (.tmp rfl) (.tmp rfl) rfl) ?_
    refine hr_region_end ?_
    try dsimp only [HAct.put, List.set_cons_zero, List.set_cons_succ]
    rcases ifc h with ⟨hc1, h⟩ | ⟨hc1, h⟩
    · refine q_cond_t e10 (.tmp rfl) (decide_eq_true hc1) ?_
      refine q_skipc e11 ?_
      refine q_seq e13 ?_
      refine q_block e14 ?_
      refine q_seq e15 ?_
      refine q_region e16 rfl ?_
      refine q_op (dst := some 11) rfl (fun _ ho => ok_move ho (.tmp rfl)) ?_
      refine q_op (dst := some 12) rfl (fun _ ho => ok_move ho (.tmp rfl)) ?_
      obtain ⟨p2, hp2, h⟩ := bindo h
      refine q_op (dst := some 13) rfl (fun _ ho => ok_index_s ho tu9 (.tmp rfl) (.tmp rfl) hp2) ?_
      refine q_op (dst := some 4) rfl (fun _ ho => ok_assign ho (.tmp rfl)) ?_
      refine hr_region_end ?_
      try dsimp only [HAct.put, List.set_cons_zero, List.set_cons_succ]
      refine q_seq e17 ?_
      refine q_region e18 rfl ?_
      refine q_op (dst := some 14) rfl (fun _ ho => ok_move ho (.tmp rfl)) ?_
      obtain ⟨p3, hp3, h⟩ := bindo h
      refine q_call (dst := some 15) rfl (.func _) (.cons (.tmp rfl) Evs.nil) (HInv.static rollcallref03_Letter.at_ rollcallref03_Letter.body (rollcallref03_Letter.snd  hp3)) ?_
      rintro _ _ ⟨rfl, rfl⟩
      refine q_op (dst := some 16) rfl (fun _ ho => ok_not ho (.tmp rfl)) ?_
      refine q_op (dst := some 17) rfl (fun _ ho => ok_move ho (.tmp rfl)) ?_
      try dsimp only [HAct.put, List.set_cons_zero, List.set_cons_succ]
      rcases ifc h with ⟨hc4, h⟩ | ⟨hc4, h⟩
      · refine q_op_g (t := 17) (dst := some 18) rfl rfl rfl hc4 (fun _ ho => ok_move ho (.tmp rfl)) ?_
        obtain ⟨p5, hp5, h⟩ := bindo h
        refine q_call_g (t := 17) (dst := some 19) rfl rfl rfl hc4 (.func _) (.cons (.tmp rfl) Evs.nil) (HInv.static rollcallref03_Digit.at_ rollcallref03_Digit.body (rollcallref03_Digit.snd  hp5)) ?_
        rintro _ _ ⟨rfl, rfl⟩
        refine q_op_g (t := 17) (dst := some 20) rfl rfl rfl hc4 (fun _ ho => ok_not ho (.tmp rfl)) ?_
        refine q_op (dst := some 21) rfl (fun _ ho => ok_pick_tt ho (.tmp rfl) hc4 (.tmp rfl)) ?_
        try dsimp only [HAct.put, List.set_cons_zero, List.set_cons_succ]
        try dsimp only [HAct.put, List.set_cons_zero, List.set_cons_succ]
        exact J1_snd ih h
      · refine q_skip (dst := some 18) (t := 17) rfl rfl rfl (bfalse hc4) ?_
        refine q_skip (dst := some 19) (t := 17) rfl rfl rfl (bfalse hc4) ?_
        refine q_skip (dst := some 20) (t := 17) rfl rfl rfl (bfalse hc4) ?_
        refine q_op (dst := some 21) rfl (fun _ ho => ok_pick_ff ho (.tmp rfl) (bfalse hc4) (.bool _)) ?_
        try dsimp only [HAct.put, List.set_cons_zero, List.set_cons_succ]
        try dsimp only [HAct.put, List.set_cons_zero, List.set_cons_succ]
        exact J1_snd ih h
    · refine q_cond_f e10 (.tmp rfl) (decide_eq_false hc1) ?_
      refine q_exit e12 rfl ?_
      refine q_seq e25 ?_
      refine q_region e26 rfl ?_
      refine q_op (dst := some 38) rfl (fun _ ho => ok_move ho (.tmp rfl)) ?_
      refine q_op (dst := some 39) rfl (fun _ ho => ok_len_str ho rfl tu9 (.tmp rfl)) ?_
      refine q_op (dst := some 40) rfl (fun _ ho => ok_ibin ho (.tmp rfl) (.int _ _) rfl) ?_
      refine q_op (dst := some 41) rfl (fun _ ho => ok_move ho (.tmp rfl)) ?_
      try dsimp only [HAct.put, List.set_cons_zero, List.set_cons_succ]
      rcases ifc h with ⟨hc12, h⟩ | ⟨hc12, h⟩
      · refine q_op_g (t := 41) (dst := some 42) rfl rfl rfl (decide_eq_true hc12) (fun _ ho => ok_move ho (.tmp rfl)) ?_
        refine q_op_g (t := 41) (dst := some 43) rfl rfl rfl (decide_eq_true hc12) (fun _ ho => ok_len_str ho rfl tu9 (.tmp rfl)) ?_
        refine q_op_g (t := 41) (dst := some 44) rfl rfl rfl (decide_eq_true hc12) (fun _ ho => ok_ibin ho (.tmp rfl) (.int _ _) rfl) ?_
        refine q_op (dst := some 45) rfl (fun _ ho => ok_pick_tt ho (.tmp rfl) (decide_eq_true hc12) (.tmp rfl)) ?_
        try dsimp only [HAct.put, List.set_cons_zero, List.set_cons_succ]
        try dsimp only [HAct.put, List.set_cons_zero, List.set_cons_succ]
        exact J6_snd  h
      · refine q_skip (dst := some 42) (t := 41) rfl rfl rfl (decide_eq_false hc12) ?_
        refine q_skip (dst := some 43) (t := 41) rfl rfl rfl (decide_eq_false hc12) ?_
        refine q_skip (dst := some 44) (t := 41) rfl rfl rfl (decide_eq_false hc12) ?_
        refine q_op (dst := some 45) rfl (fun _ ho => ok_pick_ff ho (.tmp rfl) (decide_eq_false hc12) (.bool _)) ?_
        try dsimp only [HAct.put, List.set_cons_zero, List.set_cons_succ]
        try dsimp only [HAct.put, List.set_cons_zero, List.set_cons_succ]
        exact J6_snd  h
def f (k : Nat) (x0 : (List UInt8)) : Option (Bool) :=
  L0 k k x0 0
theorem snd {k : Nat} {x0 : (List UInt8)} {S : HS}  {p : Bool} (h : f k x0 = some p) : HCall Try.prog base W0 β0 17 [(.str x0)] S (fun v S1 => v = (.bool p) ∧ S1 = S) := by
  unfold f at h
  refine HCall.of_run at_.at_ body ?_
  show HRun Try.prog base W0 β0 17 none [.code c0] ⟨[(.str x0), .tup [], .tup [], .tup [], .tup [], .tup [], .tup [], .tup [], .tup [], .tup [], .tup [], .tup [], .tup [], .tup [], .tup [], .tup [], .tup [], .tup [], .tup [], .tup [], .tup [], .tup [], .tup [], .tup [], .tup [], .tup [], .tup [], .tup [], .tup [], .tup [], .tup [], .tup [], .tup [], .tup [], .tup [], .tup [], .tup [], .tup [], .tup [], .tup [], .tup [], .tup [], .tup [], .tup [], .tup [], .tup []], []⟩ S _
  refine q_seq e0 ?_
  refine q_region e1 rfl ?_
  refine q_op (dst := some 2) rfl (fun _ ho => ok_assign ho (.bool _)) ?_
  refine hr_region_end ?_
  try dsimp only [HAct.put, List.set_cons_zero, List.set_cons_succ]
  refine q_seq e2 ?_
  refine q_seq e3 ?_
  refine q_region e4 rfl ?_
  refine q_op (dst := some 3) rfl (fun _ ho => ok_assign ho (.int _ _)) ?_
  refine hr_region_end ?_
  try dsimp only [HAct.put, List.set_cons_zero, List.set_cons_succ]
  refine q_block e5 ?_
  refine q_loop e6 ?_
  try dsimp only [HAct.put, List.set_cons_zero, List.set_cons_succ]
  exact L0_snd  h
end
end rollcallref03_Host
namespace valid_Server
abbrev id : Nat := 18
theorem at_ : FnAt Try.prog 18 Try.f18 := ⟨Try.func18, by kernel_rfl⟩
noncomputable def c0 : Code := (Try.f18.body).getD .skip
noncomputable def c1 : Code := match c0 with | .seq x _ => x | _ => .skip
noncomputable def c2 : Code := match c0 with | .seq _ x => x | _ => .skip
noncomputable def c3 : Code := match c2 with | .seq x _ => x | _ => .skip
noncomputable def c4 : Code := match c2 with | .seq _ x => x | _ => .skip
theorem e0 : c0 = .seq c1 c2 := by kernel_rfl
noncomputable def r1 : Array Oper := match c1 with | .region _ x _ => x | _ => #[]
theorem e1 : c1 = .region 0 r1 false := by kernel_rfl
theorem e2 : c2 = .seq c3 c4 := by kernel_rfl
noncomputable def r3 : Array Oper := match c3 with | .region _ x _ => x | _ => #[]
theorem e3 : c3 = .region 1 r3 false := by kernel_rfl
theorem e4 : c4 = .ret := by kernel_rfl
theorem body : Try.f18.body = some c0 := by kernel_rfl
section
variable {base : Nat} {W0 : World} {β0 : Bt}
def J2 (k : Nat) (y19 : Bool) (S : HS) : Option ((Bool) × HS) :=
  some (y19, S)
theorem J2_snd {k : Nat}  {y19 : Bool} {S : HS} {p : (Bool) × HS} {g0 g1 g2 g3 g4 g5 g6 g7 g8 g9 g10 g11 g12 g13 g14 g15 g16 g17 g18 : HV} (h : J2 k y19 S = some p) : HRun Try.prog base W0 β0 18 none [.inRegion r3 [17], .code c4] ⟨[g0, g1, g2, g3, g4, g5, g6, g7, g8, g9, g10, g11, g12, g13, g14, g15, g16, g17, g18, (.bool y19)], []⟩ S (fun v S1 => v = (.bool p.1) ∧ S1 = p.2) := by
  unfold J2 at h
  refine q_op (dst := some 2) rfl (fun _ ho => ok_assign ho (.tmp rfl)) ?_
  refine hr_region_end ?_
  try dsimp only [HAct.put, List.set_cons_zero, List.set_cons_succ]
  cases h
  exact q_ret e4 at_.at_ rfl (res1 rfl rfl) ⟨rfl, rfl⟩
def J1 (k : Nat) (y0 : (List UInt8)) (y14 : Bool) (S : HS) : Option ((Bool) × HS) :=
  (if y14 = true then
  (Option.bind (valid_has.f y0 58) fun p8 =>
  J2 k (!p8) S) else
  J2 k false S)
theorem J1_snd {k : Nat}  {y0 : (List UInt8)} {y14 : Bool} {S : HS} {p : (Bool) × HS} {g1 g2 g3 g4 g5 g6 g7 g8 g9 g10 g11 g12 g13 g15 g16 g17 g18 g19 : HV} (h : J1 k y0 y14 S = some p) : HRun Try.prog base W0 β0 18 none [.inRegion r3 [12, 13, 14, 15, 16, 17], .code c4] ⟨[(.str y0), g1, g2, g3, g4, g5, g6, g7, g8, g9, g10, g11, g12, g13, (.bool y14), g15, g16, g17, g18, g19], []⟩ S (fun v S1 => v = (.bool p.1) ∧ S1 = p.2) := by
  unfold J1 at h
  refine q_op (dst := some 15) rfl (fun _ ho => ok_move ho (.tmp rfl)) ?_
  rcases ifc h with ⟨hc7, h⟩ | ⟨hc7, h⟩
  · refine q_op_g (t := 15) (dst := some 16) rfl rfl rfl hc7 (fun _ ho => ok_move ho (.tmp rfl)) ?_
    obtain ⟨p8, hp8, h⟩ := bindo h
    refine q_call_g (t := 15) (dst := some 17) rfl rfl rfl hc7 (.func _) (.cons (.tmp rfl) (.cons (.int _ _) Evs.nil)) (HInv.static valid_has.at_ valid_has.body (valid_has.snd  hp8)) ?_
    rintro _ _ ⟨rfl, rfl⟩
    refine q_op_g (t := 15) (dst := some 18) rfl rfl rfl hc7 (fun _ ho => ok_not ho (.tmp rfl)) ?_
    try dsimp only [HAct.put, List.set_cons_zero, List.set_cons_succ]
    refine q_op (dst := some 19) rfl (fun _ ho => ok_pick_tt ho (.tmp rfl) hc7 (.tmp rfl)) ?_
    try dsimp only [HAct.put, List.set_cons_zero, List.set_cons_succ]
    exact J2_snd  h
  · refine q_skip (dst := some 16) (t := 15) rfl rfl rfl (bfalse hc7) ?_
    refine q_skip (dst := some 17) (t := 15) rfl rfl rfl (bfalse hc7) ?_
    refine q_skip (dst := some 18) (t := 15) rfl rfl rfl (bfalse hc7) ?_
    try dsimp only [HAct.put, List.set_cons_zero, List.set_cons_succ]
    refine q_op (dst := some 19) rfl (fun _ ho => ok_pick_ff ho (.tmp rfl) (bfalse hc7) (.bool _)) ?_
    try dsimp only [HAct.put, List.set_cons_zero, List.set_cons_succ]
    exact J2_snd  h
def J0 (k : Nat) (y0 : (List UInt8)) (y10 : Bool) (S : HS) : Option ((Bool) × HS) :=
  (if y10 = true then
  (Option.bind (valid_has.f y0 46) fun p6 =>
  J1 k y0 p6 S) else
  J1 k y0 false S)
theorem J0_snd {k : Nat}  {y0 : (List UInt8)} {y10 : Bool} {S : HS} {p : (Bool) × HS} {g1 g2 g3 g4 g5 g6 g7 g8 g9 g11 g12 g13 g14 g15 g16 g17 g18 g19 : HV} (h : J0 k y0 y10 S = some p) : HRun Try.prog base W0 β0 18 none [.inRegion r3 [8, 9, 10, 11, 12, 13, 14, 15, 16, 17], .code c4] ⟨[(.str y0), g1, g2, g3, g4, g5, g6, g7, g8, g9, (.bool y10), g11, g12, g13, g14, g15, g16, g17, g18, g19], []⟩ S (fun v S1 => v = (.bool p.1) ∧ S1 = p.2) := by
  unfold J0 at h
  refine q_op (dst := some 11) rfl (fun _ ho => ok_move ho (.tmp rfl)) ?_
  rcases ifc h with ⟨hc5, h⟩ | ⟨hc5, h⟩
  · refine q_op_g (t := 11) (dst := some 12) rfl rfl rfl hc5 (fun _ ho => ok_move ho (.tmp rfl)) ?_
    obtain ⟨p6, hp6, h⟩ := bindo h
    refine q_call_g (t := 11) (dst := some 13) rfl rfl rfl hc5 (.func _) (.cons (.tmp rfl) (.cons (.int _ _) Evs.nil)) (HInv.static valid_has.at_ valid_has.body (valid_has.snd  hp6)) ?_
    rintro _ _ ⟨rfl, rfl⟩
    refine q_op (dst := some 14) rfl (fun _ ho => ok_pick_tt ho (.tmp rfl) hc5 (.tmp rfl)) ?_
    try dsimp only [HAct.put, List.set_cons_zero, List.set_cons_succ]
    try dsimp only [HAct.put, List.set_cons_zero, List.set_cons_succ]
    exact J1_snd  h
  · refine q_skip (dst := some 12) (t := 11) rfl rfl rfl (bfalse hc5) ?_
    refine q_skip (dst := some 13) (t := 11) rfl rfl rfl (bfalse hc5) ?_
    refine q_op (dst := some 14) rfl (fun _ ho => ok_pick_ff ho (.tmp rfl) (bfalse hc5) (.bool _)) ?_
    try dsimp only [HAct.put, List.set_cons_zero, List.set_cons_succ]
    try dsimp only [HAct.put, List.set_cons_zero, List.set_cons_succ]
    exact J1_snd  h
def f (k : Nat) (x0 : (List UInt8)) (S : HS) : Option ((Bool) × HS) :=
  (Option.bind (valid_Host.f k x0 S) fun p1 =>
  (if p1.1 = true then
  (Option.bind (sat x0 0) fun p3 =>
  (Option.bind (valid_letter.f (w64 (UInt8.toNat p3 : Int))) fun p4 =>
  J0 k x0 p4 p1.2)) else
  J0 k x0 false p1.2))
theorem snd {k : Nat} {x0 : (List UInt8)} {S : HS}  {p : (Bool) × HS} (h : f k x0 S = some p) : HCall Try.prog base W0 β0 18 [(.str x0)] S (fun v S1 => v = (.bool p.1) ∧ S1 = p.2) := by
  unfold f at h
  refine HCall.of_run at_.at_ body ?_
  show HRun Try.prog base W0 β0 18 none [.code c0] ⟨[(.str x0), .tup [], .tup [], .tup [], .tup [], .tup [], .tup [], .tup [], .tup [], .tup [], .tup [], .tup [], .tup [], .tup [], .tup [], .tup [], .tup [], .tup [], .tup [], .tup []], []⟩ S _
  refine q_seq e0 ?_
  refine q_region e1 rfl ?_
  refine q_op (dst := some 2) rfl (fun _ ho => ok_assign ho (.bool _)) ?_
  refine hr_region_end ?_
  try dsimp only [HAct.put, List.set_cons_zero, List.set_cons_succ]
  refine q_seq e2 ?_
  refine q_region e3 rfl ?_
  refine q_op (dst := some 3) rfl (fun _ ho => ok_move ho (.tmp rfl)) ?_
  obtain ⟨p1, hp1, h⟩ := bindo h
  refine q_call (dst := some 4) rfl (.func _) (.cons (.tmp rfl) Evs.nil) (HInv.static valid_Host.at_ valid_Host.body (valid_Host.snd  hp1)) ?_
  rintro _ _ ⟨rfl, rfl⟩
  refine q_op (dst := some 5) rfl (fun _ ho => ok_move ho (.tmp rfl)) ?_
  rcases ifc h with ⟨hc2, h⟩ | ⟨hc2, h⟩
  · refine q_op_g (t := 5) (dst := some 6) rfl rfl rfl hc2 (fun _ ho => ok_move ho (.tmp rfl)) ?_
    try dsimp only [HAct.put, List.set_cons_zero, List.set_cons_succ]
    obtain ⟨p3, hp3, h⟩ := bindo h
    refine q_op_g (t := 5) (dst := some 7) rfl rfl rfl hc2 (fun _ ho => ok_index_s ho tu9 (.tmp rfl) (.int _ _) hp3) ?_
    refine q_op_g (t := 5) (dst := some 8) rfl rfl rfl hc2 (fun _ ho => ok_conv_int ho tu5 tu3 (.tmp rfl)) ?_
    obtain ⟨p4, hp4, h⟩ := bindo h
    refine q_call_g (t := 5) (dst := some 9) rfl rfl rfl hc2 (.func _) (.cons (.tmp rfl) Evs.nil) (HInv.static valid_letter.at_ valid_letter.body (valid_letter.snd  hp4)) ?_
    rintro _ _ ⟨rfl, rfl⟩
    refine q_op (dst := some 10) rfl (fun _ ho => ok_pick_tt ho (.tmp rfl) hc2 (.tmp rfl)) ?_
    try dsimp only [HAct.put, List.set_cons_zero, List.set_cons_succ]
    try dsimp only [HAct.put, List.set_cons_zero, List.set_cons_succ]
    exact J0_snd  h
  · refine q_skip (dst := some 6) (t := 5) rfl rfl rfl (bfalse hc2) ?_
    try dsimp only [HAct.put, List.set_cons_zero, List.set_cons_succ]
    refine q_skip (dst := some 7) (t := 5) rfl rfl rfl (bfalse hc2) ?_
    refine q_skip (dst := some 8) (t := 5) rfl rfl rfl (bfalse hc2) ?_
    refine q_skip (dst := some 9) (t := 5) rfl rfl rfl (bfalse hc2) ?_
    refine q_op (dst := some 10) rfl (fun _ ho => ok_pick_ff ho (.tmp rfl) (bfalse hc2) (.bool _)) ?_
    try dsimp only [HAct.put, List.set_cons_zero, List.set_cons_succ]
    try dsimp only [HAct.put, List.set_cons_zero, List.set_cons_succ]
    exact J0_snd  h
end
end valid_Server
namespace rollcallref03_Server
abbrev id : Nat := 19
theorem at_ : FnAt Try.prog 19 Try.f19 := ⟨Try.func19, by kernel_rfl⟩
noncomputable def c0 : Code := (Try.f19.body).getD .skip
noncomputable def c1 : Code := match c0 with | .seq x _ => x | _ => .skip
noncomputable def c2 : Code := match c0 with | .seq _ x => x | _ => .skip
noncomputable def c3 : Code := match c2 with | .seq x _ => x | _ => .skip
noncomputable def c4 : Code := match c2 with | .seq _ x => x | _ => .skip
theorem e0 : c0 = .seq c1 c2 := by kernel_rfl
noncomputable def r1 : Array Oper := match c1 with | .region _ x _ => x | _ => #[]
theorem e1 : c1 = .region 0 r1 false := by kernel_rfl
theorem e2 : c2 = .seq c3 c4 := by kernel_rfl
noncomputable def r3 : Array Oper := match c3 with | .region _ x _ => x | _ => #[]
theorem e3 : c3 = .region 1 r3 false := by kernel_rfl
theorem e4 : c4 = .ret := by kernel_rfl
theorem body : Try.f19.body = some c0 := by kernel_rfl
section
variable {base : Nat} {W0 : World} {β0 : Bt}
def J2 (k : Nat) (y18 : Bool) : Option (Bool) :=
  some y18
theorem J2_snd {k : Nat}  {y18 : Bool} {S : HS} {p : Bool} {g0 g1 g2 g3 g4 g5 g6 g7 g8 g9 g10 g11 g12 g13 g14 g15 g16 g17 : HV} (h : J2 k y18 = some p) : HRun Try.prog base W0 β0 19 none [.inRegion r3 [16], .code c4] ⟨[g0, g1, g2, g3, g4, g5, g6, g7, g8, g9, g10, g11, g12, g13, g14, g15, g16, g17, (.bool y18)], []⟩ S (fun v S1 => v = (.bool p) ∧ S1 = S) := by
  unfold J2 at h
  refine q_op (dst := some 2) rfl (fun _ ho => ok_assign ho (.tmp rfl)) ?_
  refine hr_region_end ?_
  try dsimp only [HAct.put, List.set_cons_zero, List.set_cons_succ]
  cases h
  exact q_ret e4 at_.at_ rfl (res1 rfl rfl) ⟨rfl, rfl⟩
def J1 (k : Nat) (y0 : (List UInt8)) (y13 : Bool) : Option (Bool) :=
  (if y13 = true then
  (Option.bind (rollcallref03_in.f k y0 58) fun p8 =>
  J2 k (!p8)) else
  J2 k false)
theorem J1_snd {k : Nat}  {y0 : (List UInt8)} {y13 : Bool} {S : HS} {p : Bool} {g1 g2 g3 g4 g5 g6 g7 g8 g9 g10 g11 g12 g14 g15 g16 g17 g18 : HV} (h : J1 k y0 y13 = some p) : HRun Try.prog base W0 β0 19 none [.inRegion r3 [11, 12, 13, 14, 15, 16], .code c4] ⟨[(.str y0), g1, g2, g3, g4, g5, g6, g7, g8, g9, g10, g11, g12, (.bool y13), g14, g15, g16, g17, g18], []⟩ S (fun v S1 => v = (.bool p) ∧ S1 = S) := by
  unfold J1 at h
  refine q_op (dst := some 14) rfl (fun _ ho => ok_move ho (.tmp rfl)) ?_
  try dsimp only [HAct.put, List.set_cons_zero, List.set_cons_succ]
  rcases ifc h with ⟨hc7, h⟩ | ⟨hc7, h⟩
  · refine q_op_g (t := 14) (dst := some 15) rfl rfl rfl hc7 (fun _ ho => ok_move ho (.tmp rfl)) ?_
    obtain ⟨p8, hp8, h⟩ := bindo h
    refine q_call_g (t := 14) (dst := some 16) rfl rfl rfl hc7 (.func _) (.cons (.tmp rfl) (.cons (.int _ _) Evs.nil)) (HInv.static rollcallref03_in.at_ rollcallref03_in.body (rollcallref03_in.snd  hp8)) ?_
    rintro _ _ ⟨rfl, rfl⟩
    refine q_op_g (t := 14) (dst := some 17) rfl rfl rfl hc7 (fun _ ho => ok_not ho (.tmp rfl)) ?_
    refine q_op (dst := some 18) rfl (fun _ ho => ok_pick_tt ho (.tmp rfl) hc7 (.tmp rfl)) ?_
    try dsimp only [HAct.put, List.set_cons_zero, List.set_cons_succ]
    try dsimp only [HAct.put, List.set_cons_zero, List.set_cons_succ]
    exact J2_snd  h
  · refine q_skip (dst := some 15) (t := 14) rfl rfl rfl (bfalse hc7) ?_
    refine q_skip (dst := some 16) (t := 14) rfl rfl rfl (bfalse hc7) ?_
    refine q_skip (dst := some 17) (t := 14) rfl rfl rfl (bfalse hc7) ?_
    refine q_op (dst := some 18) rfl (fun _ ho => ok_pick_ff ho (.tmp rfl) (bfalse hc7) (.bool _)) ?_
    try dsimp only [HAct.put, List.set_cons_zero, List.set_cons_succ]
    try dsimp only [HAct.put, List.set_cons_zero, List.set_cons_succ]
    exact J2_snd  h
def J0 (k : Nat) (y0 : (List UInt8)) (y9 : Bool) : Option (Bool) :=
  (if y9 = true then
  (Option.bind (rollcallref03_in.f k y0 46) fun p6 =>
  J1 k y0 p6) else
  J1 k y0 false)
theorem J0_snd {k : Nat}  {y0 : (List UInt8)} {y9 : Bool} {S : HS} {p : Bool} {g1 g2 g3 g4 g5 g6 g7 g8 g10 g11 g12 g13 g14 g15 g16 g17 g18 : HV} (h : J0 k y0 y9 = some p) : HRun Try.prog base W0 β0 19 none [.inRegion r3 [7, 8, 9, 10, 11, 12, 13, 14, 15, 16], .code c4] ⟨[(.str y0), g1, g2, g3, g4, g5, g6, g7, g8, (.bool y9), g10, g11, g12, g13, g14, g15, g16, g17, g18], []⟩ S (fun v S1 => v = (.bool p) ∧ S1 = S) := by
  unfold J0 at h
  refine q_op (dst := some 10) rfl (fun _ ho => ok_move ho (.tmp rfl)) ?_
  try dsimp only [HAct.put, List.set_cons_zero, List.set_cons_succ]
  rcases ifc h with ⟨hc5, h⟩ | ⟨hc5, h⟩
  · refine q_op_g (t := 10) (dst := some 11) rfl rfl rfl hc5 (fun _ ho => ok_move ho (.tmp rfl)) ?_
    obtain ⟨p6, hp6, h⟩ := bindo h
    refine q_call_g (t := 10) (dst := some 12) rfl rfl rfl hc5 (.func _) (.cons (.tmp rfl) (.cons (.int _ _) Evs.nil)) (HInv.static rollcallref03_in.at_ rollcallref03_in.body (rollcallref03_in.snd  hp6)) ?_
    rintro _ _ ⟨rfl, rfl⟩
    refine q_op (dst := some 13) rfl (fun _ ho => ok_pick_tt ho (.tmp rfl) hc5 (.tmp rfl)) ?_
    try dsimp only [HAct.put, List.set_cons_zero, List.set_cons_succ]
    exact J1_snd  h
  · refine q_skip (dst := some 11) (t := 10) rfl rfl rfl (bfalse hc5) ?_
    refine q_skip (dst := some 12) (t := 10) rfl rfl rfl (bfalse hc5) ?_
    refine q_op (dst := some 13) rfl (fun _ ho => ok_pick_ff ho (.tmp rfl) (bfalse hc5) (.bool _)) ?_
    try dsimp only [HAct.put, List.set_cons_zero, List.set_cons_succ]
    exact J1_snd  h
def f (k : Nat) (x0 : (List UInt8)) : Option (Bool) :=
  (Option.bind (rollcallref03_Host.f k x0) fun p1 =>
  (if p1 = true then
  (Option.bind (sat x0 0) fun p3 =>
  (Option.bind (rollcallref03_Letter.f (UInt8.toNat p3 : Int)) fun p4 =>
  J0 k x0 p4)) else
  J0 k x0 false))
theorem snd {k : Nat} {x0 : (List UInt8)} {S : HS}  {p : Bool} (h : f k x0 = some p) : HCall Try.prog base W0 β0 19 [(.str x0)] S (fun v S1 => v = (.bool p) ∧ S1 = S) := by
  unfold f at h
  refine HCall.of_run at_.at_ body ?_
  show HRun Try.prog base W0 β0 19 none [.code c0] ⟨[(.str x0), .tup [], .tup [], .tup [], .tup [], .tup [], .tup [], .tup [], .tup [], .tup [], .tup [], .tup [], .tup [], .tup [], .tup [], .tup [], .tup [], .tup [], .tup []], []⟩ S _
  refine q_seq e0 ?_
  refine q_region e1 rfl ?_
  refine q_op (dst := some 2) rfl (fun _ ho => ok_assign ho (.bool _)) ?_
  refine hr_region_end ?_
  try dsimp only [HAct.put, List.set_cons_zero, List.set_cons_succ]
  refine q_seq e2 ?_
  refine q_region e3 rfl ?_
  refine q_op (dst := some 3) rfl (fun _ ho => ok_move ho (.tmp rfl)) ?_
  obtain ⟨p1, hp1, h⟩ := bindo h
  refine q_call (dst := some 4) rfl (.func _) (.cons (.tmp rfl) Evs.nil) (HInv.static rollcallref03_Host.at_ rollcallref03_Host.body (rollcallref03_Host.snd  hp1)) ?_
  rintro _ _ ⟨rfl, rfl⟩
  refine q_op (dst := some 5) rfl (fun _ ho => ok_move ho (.tmp rfl)) ?_
  rcases ifc h with ⟨hc2, h⟩ | ⟨hc2, h⟩
  · refine q_op_g (t := 5) (dst := some 6) rfl rfl rfl hc2 (fun _ ho => ok_move ho (.tmp rfl)) ?_
    try dsimp only [HAct.put, List.set_cons_zero, List.set_cons_succ]
    obtain ⟨p3, hp3, h⟩ := bindo h
    refine q_op_g (t := 5) (dst := some 7) rfl rfl rfl hc2 (fun _ ho => ok_index_s ho tu9 (.tmp rfl) (.int _ _) hp3) ?_
    obtain ⟨p4, hp4, h⟩ := bindo h
    refine q_call_g (t := 5) (dst := some 8) rfl rfl rfl hc2 (.func _) (.cons (.tmp rfl) Evs.nil) (HInv.static rollcallref03_Letter.at_ rollcallref03_Letter.body (rollcallref03_Letter.snd  hp4)) ?_
    rintro _ _ ⟨rfl, rfl⟩
    refine q_op (dst := some 9) rfl (fun _ ho => ok_pick_tt ho (.tmp rfl) hc2 (.tmp rfl)) ?_
    try dsimp only [HAct.put, List.set_cons_zero, List.set_cons_succ]
    exact J0_snd  h
  · refine q_skip (dst := some 6) (t := 5) rfl rfl rfl (bfalse hc2) ?_
    try dsimp only [HAct.put, List.set_cons_zero, List.set_cons_succ]
    refine q_skip (dst := some 7) (t := 5) rfl rfl rfl (bfalse hc2) ?_
    refine q_skip (dst := some 8) (t := 5) rfl rfl rfl (bfalse hc2) ?_
    refine q_op (dst := some 9) rfl (fun _ ho => ok_pick_ff ho (.tmp rfl) (bfalse hc2) (.bool _)) ?_
    try dsimp only [HAct.put, List.set_cons_zero, List.set_cons_succ]
    exact J0_snd  h
end
end rollcallref03_Server
namespace valid_Key
abbrev id : Nat := 20
theorem at_ : FnAt Try.prog 20 Try.f20 := ⟨Try.func20, by kernel_rfl⟩
noncomputable def c0 : Code := (Try.f20.body).getD .skip
noncomputable def c1 : Code := match c0 with | .seq x _ => x | _ => .skip
noncomputable def c2 : Code := match c0 with | .seq _ x => x | _ => .skip
noncomputable def c3 : Code := match c2 with | .seq x _ => x | _ => .skip
noncomputable def c4 : Code := match c2 with | .seq _ x => x | _ => .skip
theorem e0 : c0 = .seq c1 c2 := by kernel_rfl
noncomputable def r1 : Array Oper := match c1 with | .region _ x _ => x | _ => #[]
theorem e1 : c1 = .region 0 r1 false := by kernel_rfl
theorem e2 : c2 = .seq c3 c4 := by kernel_rfl
noncomputable def r3 : Array Oper := match c3 with | .region _ x _ => x | _ => #[]
theorem e3 : c3 = .region 1 r3 false := by kernel_rfl
theorem e4 : c4 = .ret := by kernel_rfl
theorem body : Try.f20.body = some c0 := by kernel_rfl
section
variable {base : Nat} {W0 : World} {β0 : Bt}
def J0 (k : Nat) (y9 : Bool) (S : HS) : Option ((Bool) × HS) :=
  some (y9, S)
theorem J0_snd {k : Nat}  {y9 : Bool} {S : HS} {p : (Bool) × HS} {g0 g1 g2 g3 g4 g5 g6 g7 g8 : HV} (h : J0 k y9 S = some p) : HRun Try.prog base W0 β0 20 none [.inRegion r3 [7], .code c4] ⟨[g0, g1, g2, g3, g4, g5, g6, g7, g8, (.bool y9)], []⟩ S (fun v S1 => v = (.bool p.1) ∧ S1 = p.2) := by
  unfold J0 at h
  refine q_op (dst := some 2) rfl (fun _ ho => ok_assign ho (.tmp rfl)) ?_
  refine hr_region_end ?_
  try dsimp only [HAct.put, List.set_cons_zero, List.set_cons_succ]
  cases h
  exact q_ret e4 at_.at_ rfl (res1 rfl rfl) ⟨rfl, rfl⟩
def f (k : Nat) (x0 : (List UInt8)) (S : HS) : Option ((Bool) × HS) :=
  (Option.bind (valid_all.f k x0 1 23 32 S) fun p1 =>
  (if p1.1 = true then
  (Option.bind (sat x0 0) fun p3 =>
  J0 k (!decide ((UInt8.toNat p3 : Int) = 58)) p1.2) else
  J0 k false p1.2))
theorem snd {k : Nat} {x0 : (List UInt8)} {S : HS}  {p : (Bool) × HS} (h : f k x0 S = some p) : HCall Try.prog base W0 β0 20 [(.str x0)] S (fun v S1 => v = (.bool p.1) ∧ S1 = p.2) := by
  unfold f at h
  refine HCall.of_run at_.at_ body ?_
  show HRun Try.prog base W0 β0 20 none [.code c0] ⟨[(.str x0), .tup [], .tup [], .tup [], .tup [], .tup [], .tup [], .tup [], .tup [], .tup []], []⟩ S _
  refine q_seq e0 ?_
  refine q_region e1 rfl ?_
  refine q_op (dst := some 2) rfl (fun _ ho => ok_assign ho (.bool _)) ?_
  refine hr_region_end ?_
  try dsimp only [HAct.put, List.set_cons_zero, List.set_cons_succ]
  refine q_seq e2 ?_
  refine q_region e3 rfl ?_
  refine q_op (dst := some 3) rfl (fun _ ho => ok_move ho (.tmp rfl)) ?_
  obtain ⟨p1, hp1, h⟩ := bindo h
  refine q_call (dst := some 4) rfl (.func _) (.cons (.tmp rfl) (.cons (.int _ _) (.cons (.int _ _) (.cons (.int _ _) Evs.nil)))) (HInv.static valid_all.at_ valid_all.body (valid_all.snd  hp1)) ?_
  rintro _ _ ⟨rfl, rfl⟩
  refine q_op (dst := some 5) rfl (fun _ ho => ok_move ho (.tmp rfl)) ?_
  rcases ifc h with ⟨hc2, h⟩ | ⟨hc2, h⟩
  · refine q_op_g (t := 5) (dst := some 6) rfl rfl rfl hc2 (fun _ ho => ok_move ho (.tmp rfl)) ?_
    try dsimp only [HAct.put, List.set_cons_zero, List.set_cons_succ]
    obtain ⟨p3, hp3, h⟩ := bindo h
    refine q_op_g (t := 5) (dst := some 7) rfl rfl rfl hc2 (fun _ ho => ok_index_s ho tu9 (.tmp rfl) (.int _ _) hp3) ?_
    refine q_op_g (t := 5) (dst := some 8) rfl rfl rfl hc2 (fun _ ho => ok_ibin ho (.tmp rfl) (.int _ _) rfl) ?_
    refine q_op (dst := some 9) rfl (fun _ ho => ok_pick_tt ho (.tmp rfl) hc2 (.tmp rfl)) ?_
    try dsimp only [HAct.put, List.set_cons_zero, List.set_cons_succ]
    exact J0_snd  h
  · refine q_skip (dst := some 6) (t := 5) rfl rfl rfl (bfalse hc2) ?_
    try dsimp only [HAct.put, List.set_cons_zero, List.set_cons_succ]
    refine q_skip (dst := some 7) (t := 5) rfl rfl rfl (bfalse hc2) ?_
    refine q_skip (dst := some 8) (t := 5) rfl rfl rfl (bfalse hc2) ?_
    refine q_op (dst := some 9) rfl (fun _ ho => ok_pick_ff ho (.tmp rfl) (bfalse hc2) (.bool _)) ?_
    try dsimp only [HAct.put, List.set_cons_zero, List.set_cons_succ]
    exact J0_snd  h
end
end valid_Key
namespace rollcallref03_Key
abbrev id : Nat := 21
theorem at_ : FnAt Try.prog 21 Try.f21 := ⟨Try.func21, by kernel_rfl⟩
noncomputable def c0 : Code := (Try.f21.body).getD .skip
noncomputable def c1 : Code := match c0 with | .seq x _ => x | _ => .skip
noncomputable def c2 : Code := match c0 with | .seq _ x => x | _ => .skip
noncomputable def c3 : Code := match c2 with | .seq x _ => x | _ => .skip
noncomputable def c4 : Code := match c3 with | .seq x _ => x | _ => .skip
noncomputable def c5 : Code := match c3 with | .seq _ x => x | _ => .skip
noncomputable def c6 : Code := match c5 with | .block _ x => x | _ => .skip
noncomputable def c7 : Code := match c6 with | .loop x => x | _ => .skip
noncomputable def c8 : Code := match c7 with | .seq x _ => x | _ => .skip
noncomputable def c9 : Code := match c8 with | .seq x _ => x | _ => .skip
noncomputable def c10 : Code := match c8 with | .seq _ x => x | _ => .skip
noncomputable def c11 : Code := match c10 with | .cond _ x _ => x | _ => .skip
noncomputable def c12 : Code := match c10 with | .cond _ _ x => x | _ => .skip
noncomputable def c13 : Code := match c7 with | .seq _ x => x | _ => .skip
noncomputable def c14 : Code := match c13 with | .seq x _ => x | _ => .skip
noncomputable def c15 : Code := match c14 with | .block _ x => x | _ => .skip
noncomputable def c16 : Code := match c15 with | .seq x _ => x | _ => .skip
noncomputable def c17 : Code := match c15 with | .seq _ x => x | _ => .skip
noncomputable def c18 : Code := match c17 with | .cond _ x _ => x | _ => .skip
noncomputable def c19 : Code := match c18 with | .seq x _ => x | _ => .skip
noncomputable def c20 : Code := match c18 with | .seq _ x => x | _ => .skip
noncomputable def c21 : Code := match c17 with | .cond _ _ x => x | _ => .skip
noncomputable def c22 : Code := match c13 with | .seq _ x => x | _ => .skip
noncomputable def c23 : Code := match c2 with | .seq _ x => x | _ => .skip
noncomputable def c24 : Code := match c23 with | .seq x _ => x | _ => .skip
noncomputable def c25 : Code := match c23 with | .seq _ x => x | _ => .skip
theorem e0 : c0 = .seq c1 c2 := by kernel_rfl
noncomputable def r1 : Array Oper := match c1 with | .region _ x _ => x | _ => #[]
theorem e1 : c1 = .region 0 r1 false := by kernel_rfl
theorem e2 : c2 = .seq c3 c23 := by kernel_rfl
theorem e3 : c3 = .seq c4 c5 := by kernel_rfl
noncomputable def r4 : Array Oper := match c4 with | .region _ x _ => x | _ => #[]
theorem e4 : c4 = .region 1 r4 false := by kernel_rfl
theorem e5 : c5 = .block 0 c6 := by kernel_rfl
theorem e6 : c6 = .loop c7 := by kernel_rfl
theorem e7 : c7 = .seq c8 c13 := by kernel_rfl
theorem e8 : c8 = .seq c9 c10 := by kernel_rfl
noncomputable def r9 : Array Oper := match c9 with | .region _ x _ => x | _ => #[]
theorem e9 : c9 = .region 2 r9 false := by kernel_rfl
theorem e10 : c10 = .cond (.tmp 7) c11 c12 := by kernel_rfl
theorem e11 : c11 = .skip := by kernel_rfl
theorem e12 : c12 = .exit 0 := by kernel_rfl
theorem e13 : c13 = .seq c14 c22 := by kernel_rfl
theorem e14 : c14 = .block 1 c15 := by kernel_rfl
theorem e15 : c15 = .seq c16 c17 := by kernel_rfl
noncomputable def r16 : Array Oper := match c16 with | .region _ x _ => x | _ => #[]
theorem e16 : c16 = .region 4 r16 false := by kernel_rfl
theorem e17 : c17 = .cond (.tmp 25) c18 c21 := by kernel_rfl
theorem e18 : c18 = .seq c19 c20 := by kernel_rfl
noncomputable def r19 : Array Oper := match c19 with | .region _ x _ => x | _ => #[]
theorem e19 : c19 = .region 5 r19 false := by kernel_rfl
theorem e20 : c20 = .ret := by kernel_rfl
theorem e21 : c21 = .skip := by kernel_rfl
noncomputable def r22 : Array Oper := match c22 with | .region _ x _ => x | _ => #[]
theorem e22 : c22 = .region 3 r22 false := by kernel_rfl
theorem e23 : c23 = .seq c24 c25 := by kernel_rfl
noncomputable def r24 : Array Oper := match c24 with | .region _ x _ => x | _ => #[]
theorem e24 : c24 = .region 6 r24 false := by kernel_rfl
theorem e25 : c25 = .ret := by kernel_rfl
theorem body : Try.f21.body = some c0 := by kernel_rfl
section
variable {base : Nat} {W0 : World} {β0 : Bt}
def J2 (k : Nat) (rec0 : (List UInt8) → Int → Option (Bool)) (y0 : (List UInt8)) (y3 : Int) (y25 : Bool) : Option (Bool) :=
  (if y25 = true then
  some false else
  rec0 y0 (w64 (y3 + 1)))
theorem J2_snd {k : Nat} {rec0 : (List UInt8) → Int → Option (Bool)} (hrec0 : ∀ ⦃y0 : (List UInt8)⦄ ⦃y3 : Int⦄ ⦃S : HS⦄ ⦃p : Bool⦄ ⦃g1 g2 g4 g5 g6 g7 g8 g9 g10 g11 g12 g13 g14 g15 g16 g17 g18 g19 g20 g21 g22 g23 g24 g25 g26 g27 g28 g29 g30 g31 g32 g33 g34 g35 g36 g37 g38 : HV⦄, rec0 y0 y3 = some p → HRun Try.prog base W0 β0 21 none [.inLoop c7, .inBlock 0, .code c23] ⟨[(.str y0), g1, g2, (.int .i64 y3), g4, g5, g6, g7, g8, g9, g10, g11, g12, g13, g14, g15, g16, g17, g18, g19, g20, g21, g22, g23, g24, g25, g26, g27, g28, g29, g30, g31, g32, g33, g34, g35, g36, g37, g38], []⟩ S (fun v S1 => v = (.bool p) ∧ S1 = S)) {y0 : (List UInt8)} {y3 : Int} {y25 : Bool} {S : HS} {p : Bool} {g1 g2 g4 g5 g6 g7 g8 g9 g10 g11 g12 g13 g14 g15 g16 g17 g18 g19 g20 g21 g22 g23 g24 g26 g27 g28 g29 g30 g31 g32 g33 g34 g35 g36 g37 g38 : HV} (h : J2 k rec0 y0 y3 y25 = some p) : HRun Try.prog base W0 β0 21 none [.code c17, .inBlock 1, .code c22, .inLoop c7, .inBlock 0, .code c23] ⟨[(.str y0), g1, g2, (.int .i64 y3), g4, g5, g6, g7, g8, g9, g10, g11, g12, g13, g14, g15, g16, g17, g18, g19, g20, g21, g22, g23, g24, (.bool y25), g26, g27, g28, g29, g30, g31, g32, g33, g34, g35, g36, g37, g38], []⟩ S (fun v S1 => v = (.bool p) ∧ S1 = S) := by
  unfold J2 at h
  rcases ifc h with ⟨hc5, h⟩ | ⟨hc5, h⟩
  · refine q_cond_t e17 (.tmp rfl) hc5 ?_
    refine q_seq e18 ?_
    refine q_region e19 rfl ?_
    refine q_op (dst := some 2) rfl (fun _ ho => ok_assign ho (.bool _)) ?_
    refine hr_region_end ?_
    try dsimp only [HAct.put, List.set_cons_zero, List.set_cons_succ]
    cases h
    exact q_ret e20 at_.at_ rfl (res1 rfl rfl) ⟨rfl, rfl⟩
  · refine q_cond_f e17 (.tmp rfl) (bfalse hc5) ?_
    refine q_skipc e21 ?_
    refine hr_inBlock ?_
    refine q_region e22 rfl ?_
    refine q_op (dst := some 8) rfl (fun _ ho => ok_move ho (.tmp rfl)) ?_
    refine q_op (dst := some 9) rfl (fun _ ho => ok_ibin ho (.tmp rfl) (.int _ _) rfl) ?_
    refine q_op (dst := some 3) rfl (fun _ ho => ok_assign ho (.tmp rfl)) ?_
    refine hr_region_end ?_
    try dsimp only [HAct.put, List.set_cons_zero, List.set_cons_succ]
    try dsimp only [HAct.put, List.set_cons_zero, List.set_cons_succ]
    exact hrec0 h
def J1 (k : Nat) (rec0 : (List UInt8) → Int → Option (Bool)) (y0 : (List UInt8)) (y3 : Int) (y19 : Bool) : Option (Bool) :=
  (if y19 = true then
  J2 k rec0 y0 y3 true else
  (Option.bind (sat y0 y3) fun p6 =>
  J2 k rec0 y0 y3 (decide ((UInt8.toNat p6 : Int) = 44))))
theorem J1_snd {k : Nat} {rec0 : (List UInt8) → Int → Option (Bool)} (hrec0 : ∀ ⦃y0 : (List UInt8)⦄ ⦃y3 : Int⦄ ⦃S : HS⦄ ⦃p : Bool⦄ ⦃g1 g2 g4 g5 g6 g7 g8 g9 g10 g11 g12 g13 g14 g15 g16 g17 g18 g19 g20 g21 g22 g23 g24 g25 g26 g27 g28 g29 g30 g31 g32 g33 g34 g35 g36 g37 g38 : HV⦄, rec0 y0 y3 = some p → HRun Try.prog base W0 β0 21 none [.inLoop c7, .inBlock 0, .code c23] ⟨[(.str y0), g1, g2, (.int .i64 y3), g4, g5, g6, g7, g8, g9, g10, g11, g12, g13, g14, g15, g16, g17, g18, g19, g20, g21, g22, g23, g24, g25, g26, g27, g28, g29, g30, g31, g32, g33, g34, g35, g36, g37, g38], []⟩ S (fun v S1 => v = (.bool p) ∧ S1 = S)) {y0 : (List UInt8)} {y3 : Int} {y19 : Bool} {S : HS} {p : Bool} {g1 g2 g4 g5 g6 g7 g8 g9 g10 g11 g12 g13 g14 g15 g16 g17 g18 g20 g21 g22 g23 g24 g25 g26 g27 g28 g29 g30 g31 g32 g33 g34 g35 g36 g37 g38 : HV} (h : J1 k rec0 y0 y3 y19 = some p) : HRun Try.prog base W0 β0 21 none [.inRegion r16 [10, 11, 12, 13, 14, 15], .code c17, .inBlock 1, .code c22, .inLoop c7, .inBlock 0, .code c23] ⟨[(.str y0), g1, g2, (.int .i64 y3), g4, g5, g6, g7, g8, g9, g10, g11, g12, g13, g14, g15, g16, g17, g18, (.bool y19), g20, g21, g22, g23, g24, g25, g26, g27, g28, g29, g30, g31, g32, g33, g34, g35, g36, g37, g38], []⟩ S (fun v S1 => v = (.bool p) ∧ S1 = S) := by
  unfold J1 at h
  refine q_op (dst := some 20) rfl (fun _ ho => ok_move ho (.tmp rfl)) ?_
  rcases ifc h with ⟨hc4, h⟩ | ⟨hc4, h⟩
  · refine q_skip (dst := some 21) (t := 20) rfl rfl rfl hc4 ?_
    try dsimp only [HAct.put, List.set_cons_zero, List.set_cons_succ]
    refine q_skip (dst := some 22) (t := 20) rfl rfl rfl hc4 ?_
    refine q_skip (dst := some 23) (t := 20) rfl rfl rfl hc4 ?_
    refine q_skip (dst := some 24) (t := 20) rfl rfl rfl hc4 ?_
    refine q_op (dst := some 25) rfl (fun _ ho => ok_pick_tt ho (.tmp rfl) hc4 (.bool _)) ?_
    refine hr_region_end ?_
    try dsimp only [HAct.put, List.set_cons_zero, List.set_cons_succ]
    try dsimp only [HAct.put, List.set_cons_zero, List.set_cons_succ]
    exact J2_snd hrec0 h
  · refine q_op_g (t := 20) (dst := some 21) rfl rfl rfl (bfalse hc4) (fun _ ho => ok_move ho (.tmp rfl)) ?_
    try dsimp only [HAct.put, List.set_cons_zero, List.set_cons_succ]
    refine q_op_g (t := 20) (dst := some 22) rfl rfl rfl (bfalse hc4) (fun _ ho => ok_move ho (.tmp rfl)) ?_
    obtain ⟨p6, hp6, h⟩ := bindo h
    refine q_op_g (t := 20) (dst := some 23) rfl rfl rfl (bfalse hc4) (fun _ ho => ok_index_s ho tu9 (.tmp rfl) (.tmp rfl) hp6) ?_
    refine q_op_g (t := 20) (dst := some 24) rfl rfl rfl (bfalse hc4) (fun _ ho => ok_ibin ho (.tmp rfl) (.int _ _) rfl) ?_
    refine q_op (dst := some 25) rfl (fun _ ho => ok_pick_ff ho (.tmp rfl) (bfalse hc4) (.tmp rfl)) ?_
    refine hr_region_end ?_
    try dsimp only [HAct.put, List.set_cons_zero, List.set_cons_succ]
    try dsimp only [HAct.put, List.set_cons_zero, List.set_cons_succ]
    exact J2_snd hrec0 h
def J4 (k : Nat) (y38 : Bool) : Option (Bool) :=
  some y38
theorem J4_snd {k : Nat}  {y38 : Bool} {S : HS} {p : Bool} {g0 g1 g2 g3 g4 g5 g6 g7 g8 g9 g10 g11 g12 g13 g14 g15 g16 g17 g18 g19 g20 g21 g22 g23 g24 g25 g26 g27 g28 g29 g30 g31 g32 g33 g34 g35 g36 g37 : HV} (h : J4 k y38 = some p) : HRun Try.prog base W0 β0 21 none [.inRegion r24 [13], .code c25] ⟨[g0, g1, g2, g3, g4, g5, g6, g7, g8, g9, g10, g11, g12, g13, g14, g15, g16, g17, g18, g19, g20, g21, g22, g23, g24, g25, g26, g27, g28, g29, g30, g31, g32, g33, g34, g35, g36, g37, (.bool y38)], []⟩ S (fun v S1 => v = (.bool p) ∧ S1 = S) := by
  unfold J4 at h
  refine q_op (dst := some 2) rfl (fun _ ho => ok_assign ho (.tmp rfl)) ?_
  refine hr_region_end ?_
  try dsimp only [HAct.put, List.set_cons_zero, List.set_cons_succ]
  cases h
  exact q_ret e25 at_.at_ rfl (res1 rfl rfl) ⟨rfl, rfl⟩
def J3 (k : Nat) (y0 : (List UInt8)) (y33 : Bool) : Option (Bool) :=
  (if y33 = true then
  (Option.bind (sat y0 0) fun p10 =>
  J4 k (!decide ((UInt8.toNat p10 : Int) = 58))) else
  J4 k false)
theorem J3_snd {k : Nat}  {y0 : (List UInt8)} {y33 : Bool} {S : HS} {p : Bool} {g1 g2 g3 g4 g5 g6 g7 g8 g9 g10 g11 g12 g13 g14 g15 g16 g17 g18 g19 g20 g21 g22 g23 g24 g25 g26 g27 g28 g29 g30 g31 g32 g34 g35 g36 g37 g38 : HV} (h : J3 k y0 y33 = some p) : HRun Try.prog base W0 β0 21 none [.inRegion r24 [8, 9, 10, 11, 12, 13], .code c25] ⟨[(.str y0), g1, g2, g3, g4, g5, g6, g7, g8, g9, g10, g11, g12, g13, g14, g15, g16, g17, g18, g19, g20, g21, g22, g23, g24, g25, g26, g27, g28, g29, g30, g31, g32, (.bool y33), g34, g35, g36, g37, g38], []⟩ S (fun v S1 => v = (.bool p) ∧ S1 = S) := by
  unfold J3 at h
  refine q_op (dst := some 34) rfl (fun _ ho => ok_move ho (.tmp rfl)) ?_
  rcases ifc h with ⟨hc9, h⟩ | ⟨hc9, h⟩
  · refine q_op_g (t := 34) (dst := some 35) rfl rfl rfl hc9 (fun _ ho => ok_move ho (.tmp rfl)) ?_
    obtain ⟨p10, hp10, h⟩ := bindo h
    refine q_op_g (t := 34) (dst := some 36) rfl rfl rfl hc9 (fun _ ho => ok_index_s ho tu9 (.tmp rfl) (.int _ _) hp10) ?_
    refine q_op_g (t := 34) (dst := some 37) rfl rfl rfl hc9 (fun _ ho => ok_ibin ho (.tmp rfl) (.int _ _) rfl) ?_
    try dsimp only [HAct.put, List.set_cons_zero, List.set_cons_succ]
    refine q_op (dst := some 38) rfl (fun _ ho => ok_pick_tt ho (.tmp rfl) hc9 (.tmp rfl)) ?_
    try dsimp only [HAct.put, List.set_cons_zero, List.set_cons_succ]
    exact J4_snd  h
  · refine q_skip (dst := some 35) (t := 34) rfl rfl rfl (bfalse hc9) ?_
    refine q_skip (dst := some 36) (t := 34) rfl rfl rfl (bfalse hc9) ?_
    refine q_skip (dst := some 37) (t := 34) rfl rfl rfl (bfalse hc9) ?_
    try dsimp only [HAct.put, List.set_cons_zero, List.set_cons_succ]
    refine q_op (dst := some 38) rfl (fun _ ho => ok_pick_ff ho (.tmp rfl) (bfalse hc9) (.bool _)) ?_
    try dsimp only [HAct.put, List.set_cons_zero, List.set_cons_succ]
    exact J4_snd  h
def L0 (k : Nat) : Nat → (List UInt8) → Int → Option (Bool)
  | 0, _, _ => none
  | n + 1, y0, y3 =>
    (if y3 < (List.length y0 : Int) then
    (Option.bind (sat y0 y3) fun p2 =>
    (if (UInt8.toNat p2 : Int) < 33 then
    J1 k (L0 k n) y0 y3 true else
    (Option.bind (sat y0 y3) fun p7 =>
    J1 k (L0 k n) y0 y3 (decide ((UInt8.toNat p7 : Int) > 126))))) else
    (if (List.length y0 : Int) ≥ 1 then
    J3 k y0 (decide ((List.length y0 : Int) ≤ 23)) else
    J3 k y0 false))
theorem L0_snd {k : Nat}  : ∀ {n : Nat} ⦃y0 : (List UInt8)⦄ ⦃y3 : Int⦄ ⦃S : HS⦄ ⦃p : Bool⦄ ⦃g1 g2 g4 g5 g6 g7 g8 g9 g10 g11 g12 g13 g14 g15 g16 g17 g18 g19 g20 g21 g22 g23 g24 g25 g26 g27 g28 g29 g30 g31 g32 g33 g34 g35 g36 g37 g38 : HV⦄, L0 k n y0 y3 = some p → HRun Try.prog base W0 β0 21 none [.inLoop c7, .inBlock 0, .code c23] ⟨[(.str y0), g1, g2, (.int .i64 y3), g4, g5, g6, g7, g8, g9, g10, g11, g12, g13, g14, g15, g16, g17, g18, g19, g20, g21, g22, g23, g24, g25, g26, g27, g28, g29, g30, g31, g32, g33, g34, g35, g36, g37, g38], []⟩ S (fun v S1 => v = (.bool p) ∧ S1 = S) := by
  intro n
  induction n with
  | zero => intro _ _ _ _ _ _ _ _ _ _ _ _ _ _ _ _ _ _ _ _ _ _ _ _ _ _ _ _ _ _ _ _ _ _ _ _ _ _ _ _ _ h; cases h
  | succ n ih =>
    intro y0 y3 S p g1 g2 g4 g5 g6 g7 g8 g9 g10 g11 g12 g13 g14 g15 g16 g17 g18 g19 g20 g21 g22 g23 g24 g25 g26 g27 g28 g29 g30 g31 g32 g33 g34 g35 g36 g37 g38 h
    simp only [L0] at h
    refine hr_inLoop ?_
    refine q_seq e7 ?_
    refine q_seq e8 ?_
    refine q_region e9 rfl ?_
    refine q_op (dst := some 4) rfl (fun _ ho => ok_move ho (.tmp rfl)) ?_
    refine q_op (dst := some 5) rfl (fun _ ho => ok_move ho (.tmp rfl)) ?_
    refine q_op (dst := some 6) rfl (fun _ ho => ok_len_str ho rfl tu9 (.tmp rfl)) ?_
    refine q_op (dst := some 7) rfl (fun _ ho => ok_ibin ho (.tmp rfl) (.tmp rfl) rfl) ?_
    refine hr_region_end ?_
    try dsimp only [HAct.put, List.set_cons_zero, List.set_cons_succ]
    rcases ifc h with ⟨hc1, h⟩ | ⟨hc1, h⟩
    · refine q_cond_t e10 (.tmp rfl) (decide_eq_true hc1) ?_
      refine q_skipc e11 ?_
      refine q_seq e13 ?_
      refine q_block e14 ?_
      refine q_seq e15 ?_
      refine q_region e16 rfl ?_
      refine q_op (dst := some 10) rfl (fun _ ho => ok_move ho (.tmp rfl)) ?_
      refine q_op (dst := some 11) rfl (fun _ ho => ok_move ho (.tmp rfl)) ?_
      obtain ⟨p2, hp2, h⟩ := bindo h
      refine q_op (dst := some 12) rfl (fun _ ho => ok_index_s ho tu9 (.tmp rfl) (.tmp rfl) hp2) ?_
      refine q_op (dst := some 13) rfl (fun _ ho => ok_ibin ho (.tmp rfl) (.int _ _) rfl) ?_
      try dsimp only [HAct.put, List.set_cons_zero, List.set_cons_succ]
      refine q_op (dst := some 14) rfl (fun _ ho => ok_move ho (.tmp rfl)) ?_
      rcases ifc h with ⟨hc3, h⟩ | ⟨hc3, h⟩
      · refine q_skip (dst := some 15) (t := 14) rfl rfl rfl (decide_eq_true hc3) ?_
        refine q_skip (dst := some 16) (t := 14) rfl rfl rfl (decide_eq_true hc3) ?_
        refine q_skip (dst := some 17) (t := 14) rfl rfl rfl (decide_eq_true hc3) ?_
        try dsimp only [HAct.put, List.set_cons_zero, List.set_cons_succ]
        refine q_skip (dst := some 18) (t := 14) rfl rfl rfl (decide_eq_true hc3) ?_
        refine q_op (dst := some 19) rfl (fun _ ho => ok_pick_tt ho (.tmp rfl) (decide_eq_true hc3) (.bool _)) ?_
        try dsimp only [HAct.put, List.set_cons_zero, List.set_cons_succ]
        exact J1_snd ih h
      · refine q_op_g (t := 14) (dst := some 15) rfl rfl rfl (decide_eq_false hc3) (fun _ ho => ok_move ho (.tmp rfl)) ?_
        refine q_op_g (t := 14) (dst := some 16) rfl rfl rfl (decide_eq_false hc3) (fun _ ho => ok_move ho (.tmp rfl)) ?_
        obtain ⟨p7, hp7, h⟩ := bindo h
        refine q_op_g (t := 14) (dst := some 17) rfl rfl rfl (decide_eq_false hc3) (fun _ ho => ok_index_s ho tu9 (.tmp rfl) (.tmp rfl) hp7) ?_
        try dsimp only [HAct.put, List.set_cons_zero, List.set_cons_succ]
        refine q_op_g (t := 14) (dst := some 18) rfl rfl rfl (decide_eq_false hc3) (fun _ ho => ok_ibin ho (.tmp rfl) (.int _ _) rfl) ?_
        refine q_op (dst := some 19) rfl (fun _ ho => ok_pick_ff ho (.tmp rfl) (decide_eq_false hc3) (.tmp rfl)) ?_
        try dsimp only [HAct.put, List.set_cons_zero, List.set_cons_succ]
        exact J1_snd ih h
    · refine q_cond_f e10 (.tmp rfl) (decide_eq_false hc1) ?_
      refine q_exit e12 rfl ?_
      refine q_seq e23 ?_
      refine q_region e24 rfl ?_
      refine q_op (dst := some 26) rfl (fun _ ho => ok_move ho (.tmp rfl)) ?_
      refine q_op (dst := some 27) rfl (fun _ ho => ok_len_str ho rfl tu9 (.tmp rfl)) ?_
      refine q_op (dst := some 28) rfl (fun _ ho => ok_ibin ho (.tmp rfl) (.int _ _) rfl) ?_
      refine q_op (dst := some 29) rfl (fun _ ho => ok_move ho (.tmp rfl)) ?_
      try dsimp only [HAct.put, List.set_cons_zero, List.set_cons_succ]
      rcases ifc h with ⟨hc8, h⟩ | ⟨hc8, h⟩
      · refine q_op_g (t := 29) (dst := some 30) rfl rfl rfl (decide_eq_true hc8) (fun _ ho => ok_move ho (.tmp rfl)) ?_
        refine q_op_g (t := 29) (dst := some 31) rfl rfl rfl (decide_eq_true hc8) (fun _ ho => ok_len_str ho rfl tu9 (.tmp rfl)) ?_
        refine q_op_g (t := 29) (dst := some 32) rfl rfl rfl (decide_eq_true hc8) (fun _ ho => ok_ibin ho (.tmp rfl) (.int _ _) rfl) ?_
        refine q_op (dst := some 33) rfl (fun _ ho => ok_pick_tt ho (.tmp rfl) (decide_eq_true hc8) (.tmp rfl)) ?_
        try dsimp only [HAct.put, List.set_cons_zero, List.set_cons_succ]
        try dsimp only [HAct.put, List.set_cons_zero, List.set_cons_succ]
        exact J3_snd  h
      · refine q_skip (dst := some 30) (t := 29) rfl rfl rfl (decide_eq_false hc8) ?_
        refine q_skip (dst := some 31) (t := 29) rfl rfl rfl (decide_eq_false hc8) ?_
        refine q_skip (dst := some 32) (t := 29) rfl rfl rfl (decide_eq_false hc8) ?_
        refine q_op (dst := some 33) rfl (fun _ ho => ok_pick_ff ho (.tmp rfl) (decide_eq_false hc8) (.bool _)) ?_
        try dsimp only [HAct.put, List.set_cons_zero, List.set_cons_succ]
        try dsimp only [HAct.put, List.set_cons_zero, List.set_cons_succ]
        exact J3_snd  h
def f (k : Nat) (x0 : (List UInt8)) : Option (Bool) :=
  L0 k k x0 0
theorem snd {k : Nat} {x0 : (List UInt8)} {S : HS}  {p : Bool} (h : f k x0 = some p) : HCall Try.prog base W0 β0 21 [(.str x0)] S (fun v S1 => v = (.bool p) ∧ S1 = S) := by
  unfold f at h
  refine HCall.of_run at_.at_ body ?_
  show HRun Try.prog base W0 β0 21 none [.code c0] ⟨[(.str x0), .tup [], .tup [], .tup [], .tup [], .tup [], .tup [], .tup [], .tup [], .tup [], .tup [], .tup [], .tup [], .tup [], .tup [], .tup [], .tup [], .tup [], .tup [], .tup [], .tup [], .tup [], .tup [], .tup [], .tup [], .tup [], .tup [], .tup [], .tup [], .tup [], .tup [], .tup [], .tup [], .tup [], .tup [], .tup [], .tup [], .tup [], .tup []], []⟩ S _
  refine q_seq e0 ?_
  refine q_region e1 rfl ?_
  refine q_op (dst := some 2) rfl (fun _ ho => ok_assign ho (.bool _)) ?_
  refine hr_region_end ?_
  try dsimp only [HAct.put, List.set_cons_zero, List.set_cons_succ]
  refine q_seq e2 ?_
  refine q_seq e3 ?_
  refine q_region e4 rfl ?_
  refine q_op (dst := some 3) rfl (fun _ ho => ok_assign ho (.int _ _)) ?_
  refine hr_region_end ?_
  try dsimp only [HAct.put, List.set_cons_zero, List.set_cons_succ]
  refine q_block e5 ?_
  refine q_loop e6 ?_
  try dsimp only [HAct.put, List.set_cons_zero, List.set_cons_succ]
  exact L0_snd  h
end
end rollcallref03_Key
namespace valid_Text
abbrev id : Nat := 22
theorem at_ : FnAt Try.prog 22 Try.f22 := ⟨Try.func22, by kernel_rfl⟩
noncomputable def c0 : Code := (Try.f22.body).getD .skip
noncomputable def c1 : Code := match c0 with | .seq x _ => x | _ => .skip
noncomputable def c2 : Code := match c0 with | .seq _ x => x | _ => .skip
noncomputable def c3 : Code := match c2 with | .seq x _ => x | _ => .skip
noncomputable def c4 : Code := match c2 with | .seq _ x => x | _ => .skip
theorem e0 : c0 = .seq c1 c2 := by kernel_rfl
noncomputable def r1 : Array Oper := match c1 with | .region _ x _ => x | _ => #[]
theorem e1 : c1 = .region 0 r1 false := by kernel_rfl
theorem e2 : c2 = .seq c3 c4 := by kernel_rfl
noncomputable def r3 : Array Oper := match c3 with | .region _ x _ => x | _ => #[]
theorem e3 : c3 = .region 1 r3 false := by kernel_rfl
theorem e4 : c4 = .ret := by kernel_rfl
theorem body : Try.f22.body = some c0 := by kernel_rfl
section
variable {base : Nat} {W0 : World} {β0 : Bt}
def f (k : Nat) (x0 : (List UInt8)) (S : HS) : Option ((Bool) × HS) :=
  (Option.bind (valid_all.f k x0 0 (List.length x0 : Int) 64 S) fun p1 =>
  some (p1.1, p1.2))
theorem snd {k : Nat} {x0 : (List UInt8)} {S : HS}  {p : (Bool) × HS} (h : f k x0 S = some p) : HCall Try.prog base W0 β0 22 [(.str x0)] S (fun v S1 => v = (.bool p.1) ∧ S1 = p.2) := by
  unfold f at h
  refine HCall.of_run at_.at_ body ?_
  show HRun Try.prog base W0 β0 22 none [.code c0] ⟨[(.str x0), .tup [], .tup [], .tup [], .tup [], .tup [], .tup []], []⟩ S _
  refine q_seq e0 ?_
  refine q_region e1 rfl ?_
  refine q_op (dst := some 2) rfl (fun _ ho => ok_assign ho (.bool _)) ?_
  refine hr_region_end ?_
  try dsimp only [HAct.put, List.set_cons_zero, List.set_cons_succ]
  refine q_seq e2 ?_
  refine q_region e3 rfl ?_
  refine q_op (dst := some 3) rfl (fun _ ho => ok_move ho (.tmp rfl)) ?_
  refine q_op (dst := some 4) rfl (fun _ ho => ok_move ho (.tmp rfl)) ?_
  refine q_op (dst := some 5) rfl (fun _ ho => ok_len_str ho rfl tu9 (.tmp rfl)) ?_
  obtain ⟨p1, hp1, h⟩ := bindo h
  refine q_call (dst := some 6) rfl (.func _) (.cons (.tmp rfl) (.cons (.int _ _) (.cons (.tmp rfl) (.cons (.int _ _) Evs.nil)))) (HInv.static valid_all.at_ valid_all.body (valid_all.snd  hp1)) ?_
  rintro _ _ ⟨rfl, rfl⟩
  try dsimp only [HAct.put, List.set_cons_zero, List.set_cons_succ]
  refine q_op (dst := some 2) rfl (fun _ ho => ok_assign ho (.tmp rfl)) ?_
  refine hr_region_end ?_
  try dsimp only [HAct.put, List.set_cons_zero, List.set_cons_succ]
  cases h
  exact q_ret e4 at_.at_ rfl (res1 rfl rfl) ⟨rfl, rfl⟩
end
end valid_Text
end Go.Proofs.Ytpcdkecglgokoaa.X
