/- Functions of the program, each as a Lean function over the layer HL: a call answers what the Lean function answers, where it answers. -/
import Derived.Test.YtpjabhpfaahgoaaProg
import Derived.Test.YtpjabhpfaahgoaaSendq
namespace Go.Proofs.Ytpjabhpfaahgoaa.X
open Go.Proofs.Ytpjabhpfaahgoaa.HL
set_option linter.unusedVariables false
set_option linter.unusedSimpArgs false
set_option maxRecDepth 20000
set_option maxHeartbeats 4000000
namespace internal_bytealg_hashStr_string
abbrev id : Nat := 40
theorem at_ : FnAt Try.prog 40 Try.f40 := ⟨Try.func40, by kernel_rfl⟩
noncomputable def c0 : Code := (Try.f40.body).getD .skip
noncomputable def c1 : Code := match c0 with | .seq x _ => x | _ => .skip
noncomputable def c2 : Code := match c0 with | .seq _ x => x | _ => .skip
noncomputable def c3 : Code := match c2 with | .seq x _ => x | _ => .skip
noncomputable def c4 : Code := match c2 with | .seq _ x => x | _ => .skip
noncomputable def c5 : Code := match c4 with | .seq x _ => x | _ => .skip
noncomputable def c6 : Code := match c5 with | .seq x _ => x | _ => .skip
noncomputable def c7 : Code := match c5 with | .seq _ x => x | _ => .skip
noncomputable def c8 : Code := match c7 with | .block _ x => x | _ => .skip
noncomputable def c9 : Code := match c8 with | .loop x => x | _ => .skip
noncomputable def c10 : Code := match c9 with | .seq x _ => x | _ => .skip
noncomputable def c11 : Code := match c10 with | .seq x _ => x | _ => .skip
noncomputable def c12 : Code := match c10 with | .seq _ x => x | _ => .skip
noncomputable def c13 : Code := match c12 with | .cond _ x _ => x | _ => .skip
noncomputable def c14 : Code := match c12 with | .cond _ _ x => x | _ => .skip
noncomputable def c15 : Code := match c9 with | .seq _ x => x | _ => .skip
noncomputable def c16 : Code := match c15 with | .seq x _ => x | _ => .skip
noncomputable def c17 : Code := match c16 with | .block _ x => x | _ => .skip
noncomputable def c18 : Code := match c15 with | .seq _ x => x | _ => .skip
noncomputable def c19 : Code := match c4 with | .seq _ x => x | _ => .skip
noncomputable def c20 : Code := match c19 with | .seq x _ => x | _ => .skip
noncomputable def c21 : Code := match c19 with | .seq _ x => x | _ => .skip
noncomputable def c22 : Code := match c21 with | .seq x _ => x | _ => .skip
noncomputable def c23 : Code := match c22 with | .seq x _ => x | _ => .skip
noncomputable def c24 : Code := match c22 with | .seq _ x => x | _ => .skip
noncomputable def c25 : Code := match c24 with | .block _ x => x | _ => .skip
noncomputable def c26 : Code := match c25 with | .loop x => x | _ => .skip
noncomputable def c27 : Code := match c26 with | .seq x _ => x | _ => .skip
noncomputable def c28 : Code := match c27 with | .seq x _ => x | _ => .skip
noncomputable def c29 : Code := match c27 with | .seq _ x => x | _ => .skip
noncomputable def c30 : Code := match c29 with | .cond _ x _ => x | _ => .skip
noncomputable def c31 : Code := match c29 with | .cond _ _ x => x | _ => .skip
noncomputable def c32 : Code := match c26 with | .seq _ x => x | _ => .skip
noncomputable def c33 : Code := match c32 with | .seq x _ => x | _ => .skip
noncomputable def c34 : Code := match c33 with | .block _ x => x | _ => .skip
noncomputable def c35 : Code := match c34 with | .seq x _ => x | _ => .skip
noncomputable def c36 : Code := match c35 with | .seq x _ => x | _ => .skip
noncomputable def c37 : Code := match c35 with | .seq _ x => x | _ => .skip
noncomputable def c38 : Code := match c37 with | .cond _ x _ => x | _ => .skip
noncomputable def c39 : Code := match c37 with | .cond _ _ x => x | _ => .skip
noncomputable def c40 : Code := match c34 with | .seq _ x => x | _ => .skip
noncomputable def c41 : Code := match c32 with | .seq _ x => x | _ => .skip
noncomputable def c42 : Code := match c21 with | .seq _ x => x | _ => .skip
noncomputable def c43 : Code := match c42 with | .seq x _ => x | _ => .skip
noncomputable def c44 : Code := match c42 with | .seq _ x => x | _ => .skip
theorem e0 : c0 = .seq c1 c2 := by kernel_rfl
noncomputable def r1 : Array Oper := match c1 with | .region _ x _ => x | _ => #[]
theorem e1 : c1 = .region 0 r1 false := by kernel_rfl
theorem e2 : c2 = .seq c3 c4 := by kernel_rfl
noncomputable def r3 : Array Oper := match c3 with | .region _ x _ => x | _ => #[]
theorem e3 : c3 = .region 1 r3 false := by kernel_rfl
theorem e4 : c4 = .seq c5 c19 := by kernel_rfl
theorem e5 : c5 = .seq c6 c7 := by kernel_rfl
noncomputable def r6 : Array Oper := match c6 with | .region _ x _ => x | _ => #[]
theorem e6 : c6 = .region 2 r6 false := by kernel_rfl
theorem e7 : c7 = .block 0 c8 := by kernel_rfl
theorem e8 : c8 = .loop c9 := by kernel_rfl
theorem e9 : c9 = .seq c10 c15 := by kernel_rfl
theorem e10 : c10 = .seq c11 c12 := by kernel_rfl
noncomputable def r11 : Array Oper := match c11 with | .region _ x _ => x | _ => #[]
theorem e11 : c11 = .region 3 r11 false := by kernel_rfl
theorem e12 : c12 = .cond (.tmp 12) c13 c14 := by kernel_rfl
theorem e13 : c13 = .skip := by kernel_rfl
theorem e14 : c14 = .exit 0 := by kernel_rfl
theorem e15 : c15 = .seq c16 c18 := by kernel_rfl
theorem e16 : c16 = .block 1 c17 := by kernel_rfl
noncomputable def r17 : Array Oper := match c17 with | .region _ x _ => x | _ => #[]
theorem e17 : c17 = .region 5 r17 false := by kernel_rfl
noncomputable def r18 : Array Oper := match c18 with | .region _ x _ => x | _ => #[]
theorem e18 : c18 = .region 4 r18 false := by kernel_rfl
theorem e19 : c19 = .seq c20 c21 := by kernel_rfl
noncomputable def r20 : Array Oper := match c20 with | .region _ x _ => x | _ => #[]
theorem e20 : c20 = .region 6 r20 false := by kernel_rfl
theorem e21 : c21 = .seq c22 c42 := by kernel_rfl
theorem e22 : c22 = .seq c23 c24 := by kernel_rfl
noncomputable def r23 : Array Oper := match c23 with | .region _ x _ => x | _ => #[]
theorem e23 : c23 = .region 7 r23 false := by kernel_rfl
theorem e24 : c24 = .block 2 c25 := by kernel_rfl
theorem e25 : c25 = .loop c26 := by kernel_rfl
theorem e26 : c26 = .seq c27 c32 := by kernel_rfl
theorem e27 : c27 = .seq c28 c29 := by kernel_rfl
noncomputable def r28 : Array Oper := match c28 with | .region _ x _ => x | _ => #[]
theorem e28 : c28 = .region 8 r28 false := by kernel_rfl
theorem e29 : c29 = .cond (.tmp 25) c30 c31 := by kernel_rfl
theorem e30 : c30 = .skip := by kernel_rfl
theorem e31 : c31 = .exit 2 := by kernel_rfl
theorem e32 : c32 = .seq c33 c41 := by kernel_rfl
theorem e33 : c33 = .block 3 c34 := by kernel_rfl
theorem e34 : c34 = .seq c35 c40 := by kernel_rfl
theorem e35 : c35 = .seq c36 c37 := by kernel_rfl
noncomputable def r36 : Array Oper := match c36 with | .region _ x _ => x | _ => #[]
theorem e36 : c36 = .region 10 r36 false := by kernel_rfl
theorem e37 : c37 = .cond (.tmp 30) c38 c39 := by kernel_rfl
noncomputable def r38 : Array Oper := match c38 with | .region _ x _ => x | _ => #[]
theorem e38 : c38 = .region 11 r38 false := by kernel_rfl
theorem e39 : c39 = .skip := by kernel_rfl
noncomputable def r40 : Array Oper := match c40 with | .region _ x _ => x | _ => #[]
theorem e40 : c40 = .region 12 r40 false := by kernel_rfl
noncomputable def r41 : Array Oper := match c41 with | .region _ x _ => x | _ => #[]
theorem e41 : c41 = .region 9 r41 false := by kernel_rfl
theorem e42 : c42 = .seq c43 c44 := by kernel_rfl
noncomputable def r43 : Array Oper := match c43 with | .region _ x _ => x | _ => #[]
theorem e43 : c43 = .region 13 r43 false := by kernel_rfl
theorem e44 : c44 = .ret := by kernel_rfl
theorem body : Try.f40.body = some c0 := by kernel_rfl
section
variable {base : Nat} {W0 : World} {β0 : Bt}
def J2 (k : Nat) (rec0 : Int → Int → Int → Int → Option (Int × Int)) (y4 : Int) (y6 : Int) (y7 : Int) (y8 : Int) : Option (Int × Int) :=
  rec0 y4 y6 (IntKind.wrap .u32 (y7 * y7)) (Int.fdiv y8 (2 ^ (min (Int.toNat 1) (IntKind.bits .i64))))
theorem J2_snd {k : Nat} {rec0 : Int → Int → Int → Int → Option (Int × Int)} (hrec0 : ∀ ⦃y4 : Int⦄ ⦃y6 : Int⦄ ⦃y7 : Int⦄ ⦃y8 : Int⦄ ⦃S : HS⦄ ⦃p : Int × Int⦄ ⦃g0 g1 g2 g3 g5 g9 g10 g11 g12 g13 g14 g15 g16 g17 g18 g19 g20 g21 g22 g23 g24 g25 g26 g27 g28 g29 g30 g31 g32 g33 g34 g35 g36 g37 g38 : HV⦄, rec0 y4 y6 y7 y8 = some p → HRun Try.prog base W0 β0 40 none [.inLoop c26, .inBlock 2, .code c42] ⟨[g0, g1, g2, g3, (.int .u32 y4), g5, (.int .u32 y6), (.int .u32 y7), (.int .i64 y8), g9, g10, g11, g12, g13, g14, g15, g16, g17, g18, g19, g20, g21, g22, g23, g24, g25, g26, g27, g28, g29, g30, g31, g32, g33, g34, g35, g36, g37, g38], []⟩ S (fun v S1 => v = (.tup [(.int .u32 p.1), (.int .u32 p.2)]) ∧ S1 = S)) {y4 : Int} {y6 : Int} {y7 : Int} {y8 : Int} {S : HS} {p : Int × Int} {g0 g1 g2 g3 g5 g9 g10 g11 g12 g13 g14 g15 g16 g17 g18 g19 g20 g21 g22 g23 g24 g25 g26 g27 g28 g29 g30 g31 g32 g33 g34 g35 g36 g37 g38 : HV} (h : J2 k rec0 y4 y6 y7 y8 = some p) : HRun Try.prog base W0 β0 40 none [.code c40, .inBlock 3, .code c41, .inLoop c26, .inBlock 2, .code c42] ⟨[g0, g1, g2, g3, (.int .u32 y4), g5, (.int .u32 y6), (.int .u32 y7), (.int .i64 y8), g9, g10, g11, g12, g13, g14, g15, g16, g17, g18, g19, g20, g21, g22, g23, g24, g25, g26, g27, g28, g29, g30, g31, g32, g33, g34, g35, g36, g37, g38], []⟩ S (fun v S1 => v = (.tup [(.int .u32 p.1), (.int .u32 p.2)]) ∧ S1 = S) := by
  unfold J2 at h
  refine q_region e40 rfl ?_
  refine q_op (dst := some 34) rfl (fun _ ho => ok_move ho (.tmp rfl)) ?_
  refine q_op (dst := some 35) rfl (fun _ ho => ok_move ho (.tmp rfl)) ?_
  refine q_op (dst := some 36) rfl (fun _ ho => ok_ibin ho (.tmp rfl) (.tmp rfl) rfl) ?_
  refine q_op (dst := some 7) rfl (fun _ ho => ok_assign ho (.tmp rfl)) ?_
  refine hr_region_end ?_
  try dsimp only [HAct.put, List.set_cons_zero, List.set_cons_succ]
  refine hr_inBlock ?_
  refine q_region e41 rfl ?_
  refine q_op (dst := some 26) rfl (fun _ ho => ok_move ho (.tmp rfl)) ?_
  refine q_op (dst := some 27) rfl (fun _ ho => ok_shr ho (.tmp rfl) (.int _ _) (by decide)) ?_
  refine q_op (dst := some 8) rfl (fun _ ho => ok_assign ho (.tmp rfl)) ?_
  refine hr_region_end ?_
  try dsimp only [HAct.put, List.set_cons_zero, List.set_cons_succ]
  try dsimp only [HAct.put, List.set_cons_zero, List.set_cons_succ]
  exact hrec0 h
def L1 (k : Nat) : Nat → Int → Int → Int → Int → Option (Int × Int)
  | 0, _, _, _, _ => none
  | n + 1, y4, y6, y7, y8 =>
    (if y8 > 0 then
    (if (!decide ((iand .i64 y8 1) = 0)) = true then
    J2 k (L1 k n) y4 (IntKind.wrap .u32 (y6 * y7)) y7 y8 else
    J2 k (L1 k n) y4 y6 y7 y8) else
    some (y4, y6))
theorem L1_snd {k : Nat}  : ∀ {n : Nat} ⦃y4 : Int⦄ ⦃y6 : Int⦄ ⦃y7 : Int⦄ ⦃y8 : Int⦄ ⦃S : HS⦄ ⦃p : Int × Int⦄ ⦃g0 g1 g2 g3 g5 g9 g10 g11 g12 g13 g14 g15 g16 g17 g18 g19 g20 g21 g22 g23 g24 g25 g26 g27 g28 g29 g30 g31 g32 g33 g34 g35 g36 g37 g38 : HV⦄, L1 k n y4 y6 y7 y8 = some p → HRun Try.prog base W0 β0 40 none [.inLoop c26, .inBlock 2, .code c42] ⟨[g0, g1, g2, g3, (.int .u32 y4), g5, (.int .u32 y6), (.int .u32 y7), (.int .i64 y8), g9, g10, g11, g12, g13, g14, g15, g16, g17, g18, g19, g20, g21, g22, g23, g24, g25, g26, g27, g28, g29, g30, g31, g32, g33, g34, g35, g36, g37, g38], []⟩ S (fun v S1 => v = (.tup [(.int .u32 p.1), (.int .u32 p.2)]) ∧ S1 = S) := by
  intro n
  induction n with
  | zero => intro _ _ _ _ _ _ _ _ _ _ _ _ _ _ _ _ _ _ _ _ _ _ _ _ _ _ _ _ _ _ _ _ _ _ _ _ _ _ _ _ _ h; cases h
  | succ n ih =>
    intro y4 y6 y7 y8 S p g0 g1 g2 g3 g5 g9 g10 g11 g12 g13 g14 g15 g16 g17 g18 g19 g20 g21 g22 g23 g24 g25 g26 g27 g28 g29 g30 g31 g32 g33 g34 g35 g36 g37 g38 h
    simp only [L1] at h
    refine hr_inLoop ?_
    refine q_seq e26 ?_
    refine q_seq e27 ?_
    refine q_region e28 rfl ?_
    refine q_op (dst := some 24) rfl (fun _ ho => ok_move ho (.tmp rfl)) ?_
    refine q_op (dst := some 25) rfl (fun _ ho => ok_ibin ho (.tmp rfl) (.int _ _) rfl) ?_
    refine hr_region_end ?_
    try dsimp only [HAct.put, List.set_cons_zero, List.set_cons_succ]
    rcases ifc h with ⟨hc3, h⟩ | ⟨hc3, h⟩
    · refine q_cond_t e29 (.tmp rfl) (decide_eq_true hc3) ?_
      refine q_skipc e30 ?_
      refine q_seq e32 ?_
      refine q_block e33 ?_
      refine q_seq e34 ?_
      refine q_seq e35 ?_
      refine q_region e36 rfl ?_
      refine q_op (dst := some 28) rfl (fun _ ho => ok_move ho (.tmp rfl)) ?_
      refine q_op (dst := some 29) rfl (fun _ ho => ok_ibin ho (.tmp rfl) (.int _ _) rfl) ?_
      refine q_op (dst := some 30) rfl (fun _ ho => ok_ibin ho (.tmp rfl) (.int _ _) rfl) ?_
      refine hr_region_end ?_
      try dsimp only [HAct.put, List.set_cons_zero, List.set_cons_succ]
      rcases ifc h with ⟨hc4, h⟩ | ⟨hc4, h⟩
      · refine q_cond_t e37 (.tmp rfl) hc4 ?_
        refine q_region e38 rfl ?_
        refine q_op (dst := some 31) rfl (fun _ ho => ok_move ho (.tmp rfl)) ?_
        refine q_op (dst := some 32) rfl (fun _ ho => ok_move ho (.tmp rfl)) ?_
        refine q_op (dst := some 33) rfl (fun _ ho => ok_ibin ho (.tmp rfl) (.tmp rfl) rfl) ?_
        refine q_op (dst := some 6) rfl (fun _ ho => ok_assign ho (.tmp rfl)) ?_
        refine hr_region_end ?_
        try dsimp only [HAct.put, List.set_cons_zero, List.set_cons_succ]
        try dsimp only [HAct.put, List.set_cons_zero, List.set_cons_succ]
        exact J2_snd ih h
      · refine q_cond_f e37 (.tmp rfl) (bfalse hc4) ?_
        refine q_skipc e39 ?_
        try dsimp only [HAct.put, List.set_cons_zero, List.set_cons_succ]
        exact J2_snd ih h
    · refine q_cond_f e29 (.tmp rfl) (decide_eq_false hc3) ?_
      refine q_exit e31 rfl ?_
      refine q_seq e42 ?_
      refine q_region e43 rfl ?_
      refine q_op (dst := some 37) rfl (fun _ ho => ok_move ho (.tmp rfl)) ?_
      refine q_op (dst := some 38) rfl (fun _ ho => ok_move ho (.tmp rfl)) ?_
      refine q_op (dst := some 2) rfl (fun _ ho => ok_assign ho (.tmp rfl)) ?_
      refine q_op (dst := some 3) rfl (fun _ ho => ok_assign ho (.tmp rfl)) ?_
      refine hr_region_end ?_
      try dsimp only [HAct.put, List.set_cons_zero, List.set_cons_succ]
      cases h
      exact q_ret e44 at_.at_ rfl (res2 rfl rfl rfl) ⟨rfl, rfl⟩
def L0 (k : Nat) : Nat → (List UInt8) → Int → Int → Option (Int × Int)
  | 0, _, _, _ => none
  | n + 1, y0, y4, y5 =>
    (if y5 < (List.length y0 : Int) then
    (Option.bind (sat y0 y5) fun p2 =>
    (L0 k n) y0 (IntKind.wrap .u32 ((IntKind.wrap .u32 (y4 * 16777619)) + (IntKind.wrap .u32 (UInt8.toNat p2 : Int)))) (w64 (y5 + 1))) else
    L1 k k y4 1 16777619 (List.length y0 : Int))
theorem L0_snd {k : Nat}  : ∀ {n : Nat} ⦃y0 : (List UInt8)⦄ ⦃y4 : Int⦄ ⦃y5 : Int⦄ ⦃S : HS⦄ ⦃p : Int × Int⦄ ⦃g1 g2 g3 g6 g7 g8 g9 g10 g11 g12 g13 g14 g15 g16 g17 g18 g19 g20 g21 g22 g23 g24 g25 g26 g27 g28 g29 g30 g31 g32 g33 g34 g35 g36 g37 g38 : HV⦄, L0 k n y0 y4 y5 = some p → HRun Try.prog base W0 β0 40 none [.inLoop c9, .inBlock 0, .code c19] ⟨[(.str y0), g1, g2, g3, (.int .u32 y4), (.int .i64 y5), g6, g7, g8, g9, g10, g11, g12, g13, g14, g15, g16, g17, g18, g19, g20, g21, g22, g23, g24, g25, g26, g27, g28, g29, g30, g31, g32, g33, g34, g35, g36, g37, g38], []⟩ S (fun v S1 => v = (.tup [(.int .u32 p.1), (.int .u32 p.2)]) ∧ S1 = S) := by
  intro n
  induction n with
  | zero => intro _ _ _ _ _ _ _ _ _ _ _ _ _ _ _ _ _ _ _ _ _ _ _ _ _ _ _ _ _ _ _ _ _ _ _ _ _ _ _ _ _ h; cases h
  | succ n ih =>
    intro y0 y4 y5 S p g1 g2 g3 g6 g7 g8 g9 g10 g11 g12 g13 g14 g15 g16 g17 g18 g19 g20 g21 g22 g23 g24 g25 g26 g27 g28 g29 g30 g31 g32 g33 g34 g35 g36 g37 g38 h
    simp only [L0] at h
    refine hr_inLoop ?_
    refine q_seq e9 ?_
    refine q_seq e10 ?_
    refine q_region e11 rfl ?_
    refine q_op (dst := some 9) rfl (fun _ ho => ok_move ho (.tmp rfl)) ?_
    refine q_op (dst := some 10) rfl (fun _ ho => ok_move ho (.tmp rfl)) ?_
    refine q_op (dst := some 11) rfl (fun _ ho => ok_len_str ho rfl tu9 (.tmp rfl)) ?_
    refine q_op (dst := some 12) rfl (fun _ ho => ok_ibin ho (.tmp rfl) (.tmp rfl) rfl) ?_
    refine hr_region_end ?_
    try dsimp only [HAct.put, List.set_cons_zero, List.set_cons_succ]
    rcases ifc h with ⟨hc1, h⟩ | ⟨hc1, h⟩
    · refine q_cond_t e12 (.tmp rfl) (decide_eq_true hc1) ?_
      refine q_skipc e13 ?_
      refine q_seq e15 ?_
      refine q_block e16 ?_
      refine q_region e17 rfl ?_
      refine q_op (dst := some 15) rfl (fun _ ho => ok_move ho (.tmp rfl)) ?_
      refine q_op (dst := some 16) rfl (fun _ ho => ok_ibin ho (.tmp rfl) (.int _ _) rfl) ?_
      refine q_op (dst := some 17) rfl (fun _ ho => ok_move ho (.tmp rfl)) ?_
      refine q_op (dst := some 18) rfl (fun _ ho => ok_move ho (.tmp rfl)) ?_
      try dsimp only [HAct.put, List.set_cons_zero, List.set_cons_succ]
      obtain ⟨p2, hp2, h⟩ := bindo h
      refine q_op (dst := some 19) rfl (fun _ ho => ok_index_s ho tu9 (.tmp rfl) (.tmp rfl) hp2) ?_
      refine q_op (dst := some 20) rfl (fun _ ho => ok_conv_int ho tu5 tu68 (.tmp rfl)) ?_
      refine q_op (dst := some 21) rfl (fun _ ho => ok_ibin ho (.tmp rfl) (.tmp rfl) rfl) ?_
      refine q_op (dst := some 4) rfl (fun _ ho => ok_assign ho (.tmp rfl)) ?_
      refine hr_region_end ?_
      try dsimp only [HAct.put, List.set_cons_zero, List.set_cons_succ]
      refine hr_inBlock ?_
      refine q_region e18 rfl ?_
      refine q_op (dst := some 13) rfl (fun _ ho => ok_move ho (.tmp rfl)) ?_
      refine q_op (dst := some 14) rfl (fun _ ho => ok_ibin ho (.tmp rfl) (.int _ _) rfl) ?_
      refine q_op (dst := some 5) rfl (fun _ ho => ok_assign ho (.tmp rfl)) ?_
      refine hr_region_end ?_
      try dsimp only [HAct.put, List.set_cons_zero, List.set_cons_succ]
      try dsimp only [HAct.put, List.set_cons_zero, List.set_cons_succ]
      exact ih h
    · refine q_cond_f e12 (.tmp rfl) (decide_eq_false hc1) ?_
      refine q_exit e14 rfl ?_
      refine q_seq e19 ?_
      refine q_region e20 rfl ?_
      refine q_op (dst := some 6) rfl (fun _ ho => ok_assign ho (.int _ _)) ?_
      refine q_op (dst := some 7) rfl (fun _ ho => ok_assign ho (.int _ _)) ?_
      refine hr_region_end ?_
      try dsimp only [HAct.put, List.set_cons_zero, List.set_cons_succ]
      refine q_seq e21 ?_
      refine q_seq e22 ?_
      refine q_region e23 rfl ?_
      refine q_op (dst := some 22) rfl (fun _ ho => ok_move ho (.tmp rfl)) ?_
      refine q_op (dst := some 23) rfl (fun _ ho => ok_len_str ho rfl tu9 (.tmp rfl)) ?_
      refine q_op (dst := some 8) rfl (fun _ ho => ok_assign ho (.tmp rfl)) ?_
      refine hr_region_end ?_
      try dsimp only [HAct.put, List.set_cons_zero, List.set_cons_succ]
      refine q_block e24 ?_
      refine q_loop e25 ?_
      try dsimp only [HAct.put, List.set_cons_zero, List.set_cons_succ]
      exact L1_snd  h
def f (k : Nat) (x0 : (List UInt8)) : Option (Int × Int) :=
  L0 k k x0 0 0
theorem snd {k : Nat} {x0 : (List UInt8)} {S : HS}  {p : Int × Int} (h : f k x0 = some p) : HCall Try.prog base W0 β0 40 [(.str x0)] S (fun v S1 => v = (.tup [(.int .u32 p.1), (.int .u32 p.2)]) ∧ S1 = S) := by
  unfold f at h
  refine HCall.of_run at_.at_ body ?_
  show HRun Try.prog base W0 β0 40 none [.code c0] ⟨[(.str x0), .tup [], .tup [], .tup [], .tup [], .tup [], .tup [], .tup [], .tup [], .tup [], .tup [], .tup [], .tup [], .tup [], .tup [], .tup [], .tup [], .tup [], .tup [], .tup [], .tup [], .tup [], .tup [], .tup [], .tup [], .tup [], .tup [], .tup [], .tup [], .tup [], .tup [], .tup [], .tup [], .tup [], .tup [], .tup [], .tup [], .tup [], .tup []], []⟩ S _
  refine q_seq e0 ?_
  refine q_region e1 rfl ?_
  refine q_op (dst := some 2) rfl (fun _ ho => ok_assign ho (.int _ _)) ?_
  refine q_op (dst := some 3) rfl (fun _ ho => ok_assign ho (.int _ _)) ?_
  refine hr_region_end ?_
  try dsimp only [HAct.put, List.set_cons_zero, List.set_cons_succ]
  refine q_seq e2 ?_
  refine q_region e3 rfl ?_
  refine q_op (dst := some 4) rfl (fun _ ho => ok_assign ho (.int _ _)) ?_
  refine hr_region_end ?_
  try dsimp only [HAct.put, List.set_cons_zero, List.set_cons_succ]
  refine q_seq e4 ?_
  refine q_seq e5 ?_
  refine q_region e6 rfl ?_
  refine q_op (dst := some 5) rfl (fun _ ho => ok_assign ho (.int _ _)) ?_
  refine hr_region_end ?_
  try dsimp only [HAct.put, List.set_cons_zero, List.set_cons_succ]
  refine q_block e7 ?_
  refine q_loop e8 ?_
  try dsimp only [HAct.put, List.set_cons_zero, List.set_cons_succ]
  exact L0_snd  h
end
end internal_bytealg_hashStr_string
namespace internal_bytealg_IndexRabinKarp_string
abbrev id : Nat := 39
theorem at_ : FnAt Try.prog 39 Try.f39 := ⟨Try.func39, by kernel_rfl⟩
noncomputable def c0 : Code := (Try.f39.body).getD .skip
noncomputable def c1 : Code := match c0 with | .seq x _ => x | _ => .skip
noncomputable def c2 : Code := match c0 with | .seq _ x => x | _ => .skip
noncomputable def c3 : Code := match c2 with | .seq x _ => x | _ => .skip
noncomputable def c4 : Code := match c2 with | .seq _ x => x | _ => .skip
noncomputable def c5 : Code := match c4 with | .seq x _ => x | _ => .skip
noncomputable def c6 : Code := match c4 with | .seq _ x => x | _ => .skip
noncomputable def c7 : Code := match c6 with | .seq x _ => x | _ => .skip
noncomputable def c8 : Code := match c6 with | .seq _ x => x | _ => .skip
noncomputable def c9 : Code := match c8 with | .seq x _ => x | _ => .skip
noncomputable def c10 : Code := match c9 with | .seq x _ => x | _ => .skip
noncomputable def c11 : Code := match c9 with | .seq _ x => x | _ => .skip
noncomputable def c12 : Code := match c11 with | .block _ x => x | _ => .skip
noncomputable def c13 : Code := match c12 with | .loop x => x | _ => .skip
noncomputable def c14 : Code := match c13 with | .seq x _ => x | _ => .skip
noncomputable def c15 : Code := match c14 with | .seq x _ => x | _ => .skip
noncomputable def c16 : Code := match c14 with | .seq _ x => x | _ => .skip
noncomputable def c17 : Code := match c16 with | .cond _ x _ => x | _ => .skip
noncomputable def c18 : Code := match c16 with | .cond _ _ x => x | _ => .skip
noncomputable def c19 : Code := match c13 with | .seq _ x => x | _ => .skip
noncomputable def c20 : Code := match c19 with | .seq x _ => x | _ => .skip
noncomputable def c21 : Code := match c20 with | .block _ x => x | _ => .skip
noncomputable def c22 : Code := match c19 with | .seq _ x => x | _ => .skip
noncomputable def c23 : Code := match c8 with | .seq _ x => x | _ => .skip
noncomputable def c24 : Code := match c23 with | .seq x _ => x | _ => .skip
noncomputable def c25 : Code := match c24 with | .seq x _ => x | _ => .skip
noncomputable def c26 : Code := match c24 with | .seq _ x => x | _ => .skip
noncomputable def c27 : Code := match c26 with | .cond _ x _ => x | _ => .skip
noncomputable def c28 : Code := match c27 with | .seq x _ => x | _ => .skip
noncomputable def c29 : Code := match c27 with | .seq _ x => x | _ => .skip
noncomputable def c30 : Code := match c26 with | .cond _ _ x => x | _ => .skip
noncomputable def c31 : Code := match c23 with | .seq _ x => x | _ => .skip
noncomputable def c32 : Code := match c31 with | .seq x _ => x | _ => .skip
noncomputable def c33 : Code := match c32 with | .seq x _ => x | _ => .skip
noncomputable def c34 : Code := match c32 with | .seq _ x => x | _ => .skip
noncomputable def c35 : Code := match c34 with | .block _ x => x | _ => .skip
noncomputable def c36 : Code := match c35 with | .loop x => x | _ => .skip
noncomputable def c37 : Code := match c36 with | .seq x _ => x | _ => .skip
noncomputable def c38 : Code := match c37 with | .seq x _ => x | _ => .skip
noncomputable def c39 : Code := match c37 with | .seq _ x => x | _ => .skip
noncomputable def c40 : Code := match c39 with | .cond _ x _ => x | _ => .skip
noncomputable def c41 : Code := match c39 with | .cond _ _ x => x | _ => .skip
noncomputable def c42 : Code := match c36 with | .seq _ x => x | _ => .skip
noncomputable def c43 : Code := match c42 with | .block _ x => x | _ => .skip
noncomputable def c44 : Code := match c43 with | .seq x _ => x | _ => .skip
noncomputable def c45 : Code := match c43 with | .seq _ x => x | _ => .skip
noncomputable def c46 : Code := match c45 with | .seq x _ => x | _ => .skip
noncomputable def c47 : Code := match c45 with | .seq _ x => x | _ => .skip
noncomputable def c48 : Code := match c47 with | .seq x _ => x | _ => .skip
noncomputable def c49 : Code := match c47 with | .seq _ x => x | _ => .skip
noncomputable def c50 : Code := match c49 with | .seq x _ => x | _ => .skip
noncomputable def c51 : Code := match c49 with | .seq _ x => x | _ => .skip
noncomputable def c52 : Code := match c51 with | .seq x _ => x | _ => .skip
noncomputable def c53 : Code := match c51 with | .seq _ x => x | _ => .skip
noncomputable def c54 : Code := match c53 with | .cond _ x _ => x | _ => .skip
noncomputable def c55 : Code := match c54 with | .seq x _ => x | _ => .skip
noncomputable def c56 : Code := match c54 with | .seq _ x => x | _ => .skip
noncomputable def c57 : Code := match c53 with | .cond _ _ x => x | _ => .skip
noncomputable def c58 : Code := match c31 with | .seq _ x => x | _ => .skip
noncomputable def c59 : Code := match c58 with | .seq x _ => x | _ => .skip
noncomputable def c60 : Code := match c58 with | .seq _ x => x | _ => .skip
theorem e0 : c0 = .seq c1 c2 := by kernel_rfl
noncomputable def r1 : Array Oper := match c1 with | .region _ x _ => x | _ => #[]
theorem e1 : c1 = .region 0 r1 false := by kernel_rfl
theorem e2 : c2 = .seq c3 c4 := by kernel_rfl
noncomputable def r3 : Array Oper := match c3 with | .region _ x _ => x | _ => #[]
theorem e3 : c3 = .region 1 r3 false := by kernel_rfl
theorem e4 : c4 = .seq c5 c6 := by kernel_rfl
noncomputable def r5 : Array Oper := match c5 with | .region _ x _ => x | _ => #[]
theorem e5 : c5 = .region 2 r5 false := by kernel_rfl
theorem e6 : c6 = .seq c7 c8 := by kernel_rfl
noncomputable def r7 : Array Oper := match c7 with | .region _ x _ => x | _ => #[]
theorem e7 : c7 = .region 3 r7 false := by kernel_rfl
theorem e8 : c8 = .seq c9 c23 := by kernel_rfl
theorem e9 : c9 = .seq c10 c11 := by kernel_rfl
noncomputable def r10 : Array Oper := match c10 with | .region _ x _ => x | _ => #[]
theorem e10 : c10 = .region 4 r10 false := by kernel_rfl
theorem e11 : c11 = .block 0 c12 := by kernel_rfl
theorem e12 : c12 = .loop c13 := by kernel_rfl
theorem e13 : c13 = .seq c14 c19 := by kernel_rfl
theorem e14 : c14 = .seq c15 c16 := by kernel_rfl
noncomputable def r15 : Array Oper := match c15 with | .region _ x _ => x | _ => #[]
theorem e15 : c15 = .region 5 r15 false := by kernel_rfl
theorem e16 : c16 = .cond (.tmp 20) c17 c18 := by kernel_rfl
theorem e17 : c17 = .skip := by kernel_rfl
theorem e18 : c18 = .exit 0 := by kernel_rfl
theorem e19 : c19 = .seq c20 c22 := by kernel_rfl
theorem e20 : c20 = .block 1 c21 := by kernel_rfl
noncomputable def r21 : Array Oper := match c21 with | .region _ x _ => x | _ => #[]
theorem e21 : c21 = .region 7 r21 false := by kernel_rfl
noncomputable def r22 : Array Oper := match c22 with | .region _ x _ => x | _ => #[]
theorem e22 : c22 = .region 6 r22 false := by kernel_rfl
theorem e23 : c23 = .seq c24 c31 := by kernel_rfl
theorem e24 : c24 = .seq c25 c26 := by kernel_rfl
noncomputable def r25 : Array Oper := match c25 with | .region _ x _ => x | _ => #[]
theorem e25 : c25 = .region 8 r25 false := by kernel_rfl
theorem e26 : c26 = .cond (.tmp 39) c27 c30 := by kernel_rfl
theorem e27 : c27 = .seq c28 c29 := by kernel_rfl
noncomputable def r28 : Array Oper := match c28 with | .region _ x _ => x | _ => #[]
theorem e28 : c28 = .region 9 r28 false := by kernel_rfl
theorem e29 : c29 = .ret := by kernel_rfl
theorem e30 : c30 = .skip := by kernel_rfl
theorem e31 : c31 = .seq c32 c58 := by kernel_rfl
theorem e32 : c32 = .seq c33 c34 := by kernel_rfl
noncomputable def r33 : Array Oper := match c33 with | .region _ x _ => x | _ => #[]
theorem e33 : c33 = .region 10 r33 false := by kernel_rfl
theorem e34 : c34 = .block 2 c35 := by kernel_rfl
theorem e35 : c35 = .loop c36 := by kernel_rfl
theorem e36 : c36 = .seq c37 c42 := by kernel_rfl
theorem e37 : c37 = .seq c38 c39 := by kernel_rfl
noncomputable def r38 : Array Oper := match c38 with | .region _ x _ => x | _ => #[]
theorem e38 : c38 = .region 11 r38 false := by kernel_rfl
theorem e39 : c39 = .cond (.tmp 44) c40 c41 := by kernel_rfl
theorem e40 : c40 = .skip := by kernel_rfl
theorem e41 : c41 = .exit 2 := by kernel_rfl
theorem e42 : c42 = .block 3 c43 := by kernel_rfl
theorem e43 : c43 = .seq c44 c45 := by kernel_rfl
noncomputable def r44 : Array Oper := match c44 with | .region _ x _ => x | _ => #[]
theorem e44 : c44 = .region 12 r44 false := by kernel_rfl
theorem e45 : c45 = .seq c46 c47 := by kernel_rfl
noncomputable def r46 : Array Oper := match c46 with | .region _ x _ => x | _ => #[]
theorem e46 : c46 = .region 13 r46 false := by kernel_rfl
theorem e47 : c47 = .seq c48 c49 := by kernel_rfl
noncomputable def r48 : Array Oper := match c48 with | .region _ x _ => x | _ => #[]
theorem e48 : c48 = .region 14 r48 false := by kernel_rfl
theorem e49 : c49 = .seq c50 c51 := by kernel_rfl
noncomputable def r50 : Array Oper := match c50 with | .region _ x _ => x | _ => #[]
theorem e50 : c50 = .region 15 r50 false := by kernel_rfl
theorem e51 : c51 = .seq c52 c53 := by kernel_rfl
noncomputable def r52 : Array Oper := match c52 with | .region _ x _ => x | _ => #[]
theorem e52 : c52 = .region 16 r52 false := by kernel_rfl
theorem e53 : c53 = .cond (.tmp 77) c54 c57 := by kernel_rfl
theorem e54 : c54 = .seq c55 c56 := by kernel_rfl
noncomputable def r55 : Array Oper := match c55 with | .region _ x _ => x | _ => #[]
theorem e55 : c55 = .region 17 r55 false := by kernel_rfl
theorem e56 : c56 = .ret := by kernel_rfl
theorem e57 : c57 = .skip := by kernel_rfl
theorem e58 : c58 = .seq c59 c60 := by kernel_rfl
noncomputable def r59 : Array Oper := match c59 with | .region _ x _ => x | _ => #[]
theorem e59 : c59 = .region 18 r59 false := by kernel_rfl
theorem e60 : c60 = .ret := by kernel_rfl
theorem body : Try.f39.body = some c0 := by kernel_rfl
section
variable {base : Nat} {W0 : World} {β0 : Bt}
def J3 (k : Nat) (rec0 : (List UInt8) → (List UInt8) → Int → Int → Int → Int → Int → Option (Int)) (y0 : (List UInt8)) (y1 : (List UInt8)) (y5 : Int) (y6 : Int) (y7 : Int) (y8 : Int) (y10 : Int) (y77 : Bool) : Option (Int) :=
  (if y77 = true then
  some (w64 (y10 - y7)) else
  rec0 y0 y1 y5 y6 y7 y8 y10)
theorem J3_snd {k : Nat} {rec0 : (List UInt8) → (List UInt8) → Int → Int → Int → Int → Int → Option (Int)} (hrec0 : ∀ ⦃y0 : (List UInt8)⦄ ⦃y1 : (List UInt8)⦄ ⦃y5 : Int⦄ ⦃y6 : Int⦄ ⦃y7 : Int⦄ ⦃y8 : Int⦄ ⦃y10 : Int⦄ ⦃S : HS⦄ ⦃p : Int⦄ ⦃g2 g3 g4 g9 g11 g12 g13 g14 g15 g16 g17 g18 g19 g20 g21 g22 g23 g24 g25 g26 g27 g28 g29 g30 g31 g32 g33 g34 g35 g36 g37 g38 g39 g40 g41 g42 g43 g44 g45 g46 g47 g48 g49 g50 g51 g52 g53 g54 g55 g56 g57 g58 g59 g60 g61 g62 g63 g64 g65 g66 g67 g68 g69 g70 g71 g72 g73 g74 g75 g76 g77 g78 g79 g80 : HV⦄, rec0 y0 y1 y5 y6 y7 y8 y10 = some p → HRun Try.prog base W0 β0 39 none [.inLoop c36, .inBlock 2, .code c58] ⟨[(.str y0), (.str y1), g2, g3, g4, (.int .u32 y5), (.int .u32 y6), (.int .i64 y7), (.int .u32 y8), g9, (.int .i64 y10), g11, g12, g13, g14, g15, g16, g17, g18, g19, g20, g21, g22, g23, g24, g25, g26, g27, g28, g29, g30, g31, g32, g33, g34, g35, g36, g37, g38, g39, g40, g41, g42, g43, g44, g45, g46, g47, g48, g49, g50, g51, g52, g53, g54, g55, g56, g57, g58, g59, g60, g61, g62, g63, g64, g65, g66, g67, g68, g69, g70, g71, g72, g73, g74, g75, g76, g77, g78, g79, g80], []⟩ S (fun v S1 => v = (.int .i64 p) ∧ S1 = S)) {y0 : (List UInt8)} {y1 : (List UInt8)} {y5 : Int} {y6 : Int} {y7 : Int} {y8 : Int} {y10 : Int} {y77 : Bool} {S : HS} {p : Int} {g2 g3 g4 g9 g11 g12 g13 g14 g15 g16 g17 g18 g19 g20 g21 g22 g23 g24 g25 g26 g27 g28 g29 g30 g31 g32 g33 g34 g35 g36 g37 g38 g39 g40 g41 g42 g43 g44 g45 g46 g47 g48 g49 g50 g51 g52 g53 g54 g55 g56 g57 g58 g59 g60 g61 g62 g63 g64 g65 g66 g67 g68 g69 g70 g71 g72 g73 g74 g75 g76 g78 g79 g80 : HV} (h : J3 k rec0 y0 y1 y5 y6 y7 y8 y10 y77 = some p) : HRun Try.prog base W0 β0 39 none [.code c53, .inBlock 3, .inLoop c36, .inBlock 2, .code c58] ⟨[(.str y0), (.str y1), g2, g3, g4, (.int .u32 y5), (.int .u32 y6), (.int .i64 y7), (.int .u32 y8), g9, (.int .i64 y10), g11, g12, g13, g14, g15, g16, g17, g18, g19, g20, g21, g22, g23, g24, g25, g26, g27, g28, g29, g30, g31, g32, g33, g34, g35, g36, g37, g38, g39, g40, g41, g42, g43, g44, g45, g46, g47, g48, g49, g50, g51, g52, g53, g54, g55, g56, g57, g58, g59, g60, g61, g62, g63, g64, g65, g66, g67, g68, g69, g70, g71, g72, g73, g74, g75, g76, (.bool y77), g78, g79, g80], []⟩ S (fun v S1 => v = (.int .i64 p) ∧ S1 = S) := by
  unfold J3 at h
  rcases ifc h with ⟨hc12, h⟩ | ⟨hc12, h⟩
  · refine q_cond_t e53 (.tmp rfl) hc12 ?_
    refine q_seq e54 ?_
    refine q_region e55 rfl ?_
    refine q_op (dst := some 78) rfl (fun _ ho => ok_move ho (.tmp rfl)) ?_
    refine q_op (dst := some 79) rfl (fun _ ho => ok_move ho (.tmp rfl)) ?_
    refine q_op (dst := some 80) rfl (fun _ ho => ok_ibin ho (.tmp rfl) (.tmp rfl) rfl) ?_
    refine q_op (dst := some 4) rfl (fun _ ho => ok_assign ho (.tmp rfl)) ?_
    refine hr_region_end ?_
    try dsimp only [HAct.put, List.set_cons_zero, List.set_cons_succ]
    cases h
    exact q_ret e56 at_.at_ rfl (res1 rfl rfl) ⟨rfl, rfl⟩
  · refine q_cond_f e53 (.tmp rfl) (bfalse hc12) ?_
    refine q_skipc e57 ?_
    refine hr_inBlock ?_
    try dsimp only [HAct.put, List.set_cons_zero, List.set_cons_succ]
    exact hrec0 h
def L2 (k : Nat) : Nat → (List UInt8) → (List UInt8) → Int → Int → Int → Int → Int → Option (Int)
  | 0, _, _, _, _, _, _, _ => none
  | n + 1, y0, y1, y5, y6, y7, y8, y10 =>
    (if y10 < (List.length y0 : Int) then
    (Option.bind (sat y0 y10) fun p8 =>
    (Option.bind (sat y0 (w64 (y10 - y7))) fun p9 =>
    (if (IntKind.wrap .u32 ((IntKind.wrap .u32 ((IntKind.wrap .u32 (y8 * 16777619)) + (IntKind.wrap .u32 (UInt8.toNat p8 : Int)))) - (IntKind.wrap .u32 (y6 * (IntKind.wrap .u32 (UInt8.toNat p9 : Int)))))) = y5 then
    (if 0 ≤ ((w64 ((w64 (y10 + 1)) - y7)) : Int) ∧ ((w64 ((w64 (y10 + 1)) - y7)) : Int) ≤ (w64 (y10 + 1)) ∧ ((w64 (y10 + 1)) : Int) ≤ (List.length y0 : Int) then
    J3 k (L2 k n) y0 y1 y5 y6 y7 (IntKind.wrap .u32 ((IntKind.wrap .u32 ((IntKind.wrap .u32 (y8 * 16777619)) + (IntKind.wrap .u32 (UInt8.toNat p8 : Int)))) - (IntKind.wrap .u32 (y6 * (IntKind.wrap .u32 (UInt8.toNat p9 : Int)))))) (w64 (y10 + 1)) (decide ((ssub y0 (w64 ((w64 (y10 + 1)) - y7)) (w64 (y10 + 1))) = y1)) else none) else
    J3 k (L2 k n) y0 y1 y5 y6 y7 (IntKind.wrap .u32 ((IntKind.wrap .u32 ((IntKind.wrap .u32 (y8 * 16777619)) + (IntKind.wrap .u32 (UInt8.toNat p8 : Int)))) - (IntKind.wrap .u32 (y6 * (IntKind.wrap .u32 (UInt8.toNat p9 : Int)))))) (w64 (y10 + 1)) false))) else
    some (-1))
theorem L2_snd {k : Nat}  : ∀ {n : Nat} ⦃y0 : (List UInt8)⦄ ⦃y1 : (List UInt8)⦄ ⦃y5 : Int⦄ ⦃y6 : Int⦄ ⦃y7 : Int⦄ ⦃y8 : Int⦄ ⦃y10 : Int⦄ ⦃S : HS⦄ ⦃p : Int⦄ ⦃g2 g3 g4 g9 g11 g12 g13 g14 g15 g16 g17 g18 g19 g20 g21 g22 g23 g24 g25 g26 g27 g28 g29 g30 g31 g32 g33 g34 g35 g36 g37 g38 g39 g40 g41 g42 g43 g44 g45 g46 g47 g48 g49 g50 g51 g52 g53 g54 g55 g56 g57 g58 g59 g60 g61 g62 g63 g64 g65 g66 g67 g68 g69 g70 g71 g72 g73 g74 g75 g76 g77 g78 g79 g80 : HV⦄, L2 k n y0 y1 y5 y6 y7 y8 y10 = some p → HRun Try.prog base W0 β0 39 none [.inLoop c36, .inBlock 2, .code c58] ⟨[(.str y0), (.str y1), g2, g3, g4, (.int .u32 y5), (.int .u32 y6), (.int .i64 y7), (.int .u32 y8), g9, (.int .i64 y10), g11, g12, g13, g14, g15, g16, g17, g18, g19, g20, g21, g22, g23, g24, g25, g26, g27, g28, g29, g30, g31, g32, g33, g34, g35, g36, g37, g38, g39, g40, g41, g42, g43, g44, g45, g46, g47, g48, g49, g50, g51, g52, g53, g54, g55, g56, g57, g58, g59, g60, g61, g62, g63, g64, g65, g66, g67, g68, g69, g70, g71, g72, g73, g74, g75, g76, g77, g78, g79, g80], []⟩ S (fun v S1 => v = (.int .i64 p) ∧ S1 = S) := by
  intro n
  induction n with
  | zero => intro _ _ _ _ _ _ _ _ _ _ _ _ _ _ _ _ _ _ _ _ _ _ _ _ _ _ _ _ _ _ _ _ _ _ _ _ _ _ _ _ _ _ _ _ _ _ _ _ _ _ _ _ _ _ _ _ _ _ _ _ _ _ _ _ _ _ _ _ _ _ _ _ _ _ _ _ _ _ _ _ _ _ _ h; cases h
  | succ n ih =>
    intro y0 y1 y5 y6 y7 y8 y10 S p g2 g3 g4 g9 g11 g12 g13 g14 g15 g16 g17 g18 g19 g20 g21 g22 g23 g24 g25 g26 g27 g28 g29 g30 g31 g32 g33 g34 g35 g36 g37 g38 g39 g40 g41 g42 g43 g44 g45 g46 g47 g48 g49 g50 g51 g52 g53 g54 g55 g56 g57 g58 g59 g60 g61 g62 g63 g64 g65 g66 g67 g68 g69 g70 g71 g72 g73 g74 g75 g76 g77 g78 g79 g80 h
    simp only [L2] at h
    refine hr_inLoop ?_
    refine q_seq e36 ?_
    refine q_seq e37 ?_
    refine q_region e38 rfl ?_
    refine q_op (dst := some 41) rfl (fun _ ho => ok_move ho (.tmp rfl)) ?_
    refine q_op (dst := some 42) rfl (fun _ ho => ok_move ho (.tmp rfl)) ?_
    refine q_op (dst := some 43) rfl (fun _ ho => ok_len_str ho rfl tu9 (.tmp rfl)) ?_
    refine q_op (dst := some 44) rfl (fun _ ho => ok_ibin ho (.tmp rfl) (.tmp rfl) rfl) ?_
    refine hr_region_end ?_
    try dsimp only [HAct.put, List.set_cons_zero, List.set_cons_succ]
    rcases ifc h with ⟨hc7, h⟩ | ⟨hc7, h⟩
    · refine q_cond_t e39 (.tmp rfl) (decide_eq_true hc7) ?_
      refine q_skipc e40 ?_
      refine q_block e42 ?_
      refine q_seq e43 ?_
      refine q_region e44 rfl ?_
      refine q_op (dst := some 45) rfl (fun _ ho => ok_move ho (.tmp rfl)) ?_
      refine q_op (dst := some 46) rfl (fun _ ho => ok_ibin ho (.tmp rfl) (.int _ _) rfl) ?_
      refine q_op (dst := some 8) rfl (fun _ ho => ok_assign ho (.tmp rfl)) ?_
      refine hr_region_end ?_
      try dsimp only [HAct.put, List.set_cons_zero, List.set_cons_succ]
      refine q_seq e45 ?_
      refine q_region e46 rfl ?_
      refine q_op (dst := some 47) rfl (fun _ ho => ok_move ho (.tmp rfl)) ?_
      refine q_op (dst := some 48) rfl (fun _ ho => ok_move ho (.tmp rfl)) ?_
      refine q_op (dst := some 49) rfl (fun _ ho => ok_move ho (.tmp rfl)) ?_
      obtain ⟨p8, hp8, h⟩ := bindo h
      refine q_op (dst := some 50) rfl (fun _ ho => ok_index_s ho tu9 (.tmp rfl) (.tmp rfl) hp8) ?_
      try dsimp only [HAct.put, List.set_cons_zero, List.set_cons_succ]
      refine q_op (dst := some 51) rfl (fun _ ho => ok_conv_int ho tu5 tu68 (.tmp rfl)) ?_
      refine q_op (dst := some 52) rfl (fun _ ho => ok_ibin ho (.tmp rfl) (.tmp rfl) rfl) ?_
      refine q_op (dst := some 8) rfl (fun _ ho => ok_assign ho (.tmp rfl)) ?_
      refine hr_region_end ?_
      try dsimp only [HAct.put, List.set_cons_zero, List.set_cons_succ]
      refine q_seq e47 ?_
      refine q_region e48 rfl ?_
      refine q_op (dst := some 53) rfl (fun _ ho => ok_move ho (.tmp rfl)) ?_
      refine q_op (dst := some 54) rfl (fun _ ho => ok_move ho (.tmp rfl)) ?_
      refine q_op (dst := some 55) rfl (fun _ ho => ok_move ho (.tmp rfl)) ?_
      refine q_op (dst := some 56) rfl (fun _ ho => ok_move ho (.tmp rfl)) ?_
      try dsimp only [HAct.put, List.set_cons_zero, List.set_cons_succ]
      refine q_op (dst := some 57) rfl (fun _ ho => ok_move ho (.tmp rfl)) ?_
      refine q_op (dst := some 58) rfl (fun _ ho => ok_ibin ho (.tmp rfl) (.tmp rfl) rfl) ?_
      obtain ⟨p9, hp9, h⟩ := bindo h
      refine q_op (dst := some 59) rfl (fun _ ho => ok_index_s ho tu9 (.tmp rfl) (.tmp rfl) hp9) ?_
      refine q_op (dst := some 60) rfl (fun _ ho => ok_conv_int ho tu5 tu68 (.tmp rfl)) ?_
      try dsimp only [HAct.put, List.set_cons_zero, List.set_cons_succ]
      refine q_op (dst := some 61) rfl (fun _ ho => ok_ibin ho (.tmp rfl) (.tmp rfl) rfl) ?_
      refine q_op (dst := some 62) rfl (fun _ ho => ok_ibin ho (.tmp rfl) (.tmp rfl) rfl) ?_
      refine q_op (dst := some 8) rfl (fun _ ho => ok_assign ho (.tmp rfl)) ?_
      refine hr_region_end ?_
      try dsimp only [HAct.put, List.set_cons_zero, List.set_cons_succ]
      refine q_seq e49 ?_
      refine q_region e50 rfl ?_
      refine q_op (dst := some 63) rfl (fun _ ho => ok_move ho (.tmp rfl)) ?_
      refine q_op (dst := some 64) rfl (fun _ ho => ok_ibin ho (.tmp rfl) (.int _ _) rfl) ?_
      refine q_op (dst := some 10) rfl (fun _ ho => ok_assign ho (.tmp rfl)) ?_
      refine hr_region_end ?_
      try dsimp only [HAct.put, List.set_cons_zero, List.set_cons_succ]
      refine q_seq e51 ?_
      refine q_region e52 rfl ?_
      refine q_op (dst := some 65) rfl (fun _ ho => ok_move ho (.tmp rfl)) ?_
      refine q_op (dst := some 66) rfl (fun _ ho => ok_move ho (.tmp rfl)) ?_
      refine q_op (dst := some 67) rfl (fun _ ho => ok_ibin ho (.tmp rfl) (.tmp rfl) rfl) ?_
      refine q_op (dst := some 68) rfl (fun _ ho => ok_move ho (.tmp rfl)) ?_
      try dsimp only [HAct.put, List.set_cons_zero, List.set_cons_succ]
      rcases ifc h with ⟨hc10, h⟩ | ⟨hc10, h⟩
      · refine q_op_g (t := 68) (dst := some 69) rfl rfl rfl (decide_eq_true hc10) (fun _ ho => ok_move ho (.tmp rfl)) ?_
        refine q_op_g (t := 68) (dst := some 70) rfl rfl rfl (decide_eq_true hc10) (fun _ ho => ok_move ho (.tmp rfl)) ?_
        refine q_op_g (t := 68) (dst := some 71) rfl rfl rfl (decide_eq_true hc10) (fun _ ho => ok_move ho (.tmp rfl)) ?_
        refine q_op_g (t := 68) (dst := some 72) rfl rfl rfl (decide_eq_true hc10) (fun _ ho => ok_ibin ho (.tmp rfl) (.tmp rfl) rfl) ?_
        try dsimp only [HAct.put, List.set_cons_zero, List.set_cons_succ]
        refine q_op_g (t := 68) (dst := some 73) rfl rfl rfl (decide_eq_true hc10) (fun _ ho => ok_move ho (.tmp rfl)) ?_
        obtain ⟨hg11, h⟩ := gd h
        refine q_op_g (t := 68) (dst := some 74) rfl rfl rfl (decide_eq_true hc10) (fun _ ho => ok_slice_str (kl := .i64) (kh := .i64) (l := (w64 ((w64 (y10 + 1)) - y7))) (h := (w64 (y10 + 1))) ho tu9 (.tmp rfl) (.inr ⟨_, rfl, (.tmp rfl)⟩) (.inr ⟨_, rfl, (.tmp rfl)⟩) hg11.1 hg11.2.1 hg11.2.2) ?_
        refine q_op_g (t := 68) (dst := some 75) rfl rfl rfl (decide_eq_true hc10) (fun _ ho => ok_move ho (.tmp rfl)) ?_
        refine q_op_g (t := 68) (dst := some 76) rfl rfl rfl (decide_eq_true hc10) (fun _ ho => ok_sbin ho (.tmp rfl) (.tmp rfl) rfl) ?_
        try dsimp only [HAct.put, List.set_cons_zero, List.set_cons_succ]
        refine q_op (dst := some 77) rfl (fun _ ho => ok_pick_tt ho (.tmp rfl) (decide_eq_true hc10) (.tmp rfl)) ?_
        refine hr_region_end ?_
        try dsimp only [HAct.put, List.set_cons_zero, List.set_cons_succ]
        try dsimp only [HAct.put, List.set_cons_zero, List.set_cons_succ]
        exact J3_snd ih h
      · refine q_skip (dst := some 69) (t := 68) rfl rfl rfl (decide_eq_false hc10) ?_
        refine q_skip (dst := some 70) (t := 68) rfl rfl rfl (decide_eq_false hc10) ?_
        refine q_skip (dst := some 71) (t := 68) rfl rfl rfl (decide_eq_false hc10) ?_
        refine q_skip (dst := some 72) (t := 68) rfl rfl rfl (decide_eq_false hc10) ?_
        try dsimp only [HAct.put, List.set_cons_zero, List.set_cons_succ]
        refine q_skip (dst := some 73) (t := 68) rfl rfl rfl (decide_eq_false hc10) ?_
        refine q_skip (dst := some 74) (t := 68) rfl rfl rfl (decide_eq_false hc10) ?_
        refine q_skip (dst := some 75) (t := 68) rfl rfl rfl (decide_eq_false hc10) ?_
        refine q_skip (dst := some 76) (t := 68) rfl rfl rfl (decide_eq_false hc10) ?_
        try dsimp only [HAct.put, List.set_cons_zero, List.set_cons_succ]
        refine q_op (dst := some 77) rfl (fun _ ho => ok_pick_ff ho (.tmp rfl) (decide_eq_false hc10) (.bool _)) ?_
        refine hr_region_end ?_
        try dsimp only [HAct.put, List.set_cons_zero, List.set_cons_succ]
        try dsimp only [HAct.put, List.set_cons_zero, List.set_cons_succ]
        exact J3_snd ih h
    · refine q_cond_f e39 (.tmp rfl) (decide_eq_false hc7) ?_
      refine q_exit e41 rfl ?_
      refine q_seq e58 ?_
      refine q_region e59 rfl ?_
      refine q_op (dst := some 4) rfl (fun _ ho => ok_assign ho (.int _ _)) ?_
      refine hr_region_end ?_
      try dsimp only [HAct.put, List.set_cons_zero, List.set_cons_succ]
      cases h
      exact q_ret e60 at_.at_ rfl (res1 rfl rfl) ⟨rfl, rfl⟩
def J1 (k : Nat) (y0 : (List UInt8)) (y1 : (List UInt8)) (y5 : Int) (y6 : Int) (y7 : Int) (y8 : Int) (y39 : Bool) : Option (Int) :=
  (if y39 = true then
  some 0 else
  L2 k k y0 y1 y5 y6 y7 y8 y7)
theorem J1_snd {k : Nat}  {y0 : (List UInt8)} {y1 : (List UInt8)} {y5 : Int} {y6 : Int} {y7 : Int} {y8 : Int} {y39 : Bool} {S : HS} {p : Int} {g2 g3 g4 g9 g10 g11 g12 g13 g14 g15 g16 g17 g18 g19 g20 g21 g22 g23 g24 g25 g26 g27 g28 g29 g30 g31 g32 g33 g34 g35 g36 g37 g38 g40 g41 g42 g43 g44 g45 g46 g47 g48 g49 g50 g51 g52 g53 g54 g55 g56 g57 g58 g59 g60 g61 g62 g63 g64 g65 g66 g67 g68 g69 g70 g71 g72 g73 g74 g75 g76 g77 g78 g79 g80 : HV} (h : J1 k y0 y1 y5 y6 y7 y8 y39 = some p) : HRun Try.prog base W0 β0 39 none [.code c26, .code c31] ⟨[(.str y0), (.str y1), g2, g3, g4, (.int .u32 y5), (.int .u32 y6), (.int .i64 y7), (.int .u32 y8), g9, g10, g11, g12, g13, g14, g15, g16, g17, g18, g19, g20, g21, g22, g23, g24, g25, g26, g27, g28, g29, g30, g31, g32, g33, g34, g35, g36, g37, g38, (.bool y39), g40, g41, g42, g43, g44, g45, g46, g47, g48, g49, g50, g51, g52, g53, g54, g55, g56, g57, g58, g59, g60, g61, g62, g63, g64, g65, g66, g67, g68, g69, g70, g71, g72, g73, g74, g75, g76, g77, g78, g79, g80], []⟩ S (fun v S1 => v = (.int .i64 p) ∧ S1 = S) := by
  unfold J1 at h
  rcases ifc h with ⟨hc6, h⟩ | ⟨hc6, h⟩
  · refine q_cond_t e26 (.tmp rfl) hc6 ?_
    refine q_seq e27 ?_
    refine q_region e28 rfl ?_
    refine q_op (dst := some 4) rfl (fun _ ho => ok_assign ho (.int _ _)) ?_
    refine hr_region_end ?_
    try dsimp only [HAct.put, List.set_cons_zero, List.set_cons_succ]
    cases h
    exact q_ret e29 at_.at_ rfl (res1 rfl rfl) ⟨rfl, rfl⟩
  · refine q_cond_f e26 (.tmp rfl) (bfalse hc6) ?_
    refine q_skipc e30 ?_
    refine q_seq e31 ?_
    refine q_seq e32 ?_
    refine q_region e33 rfl ?_
    refine q_op (dst := some 40) rfl (fun _ ho => ok_move ho (.tmp rfl)) ?_
    refine q_op (dst := some 10) rfl (fun _ ho => ok_assign ho (.tmp rfl)) ?_
    refine hr_region_end ?_
    try dsimp only [HAct.put, List.set_cons_zero, List.set_cons_succ]
    refine q_block e34 ?_
    refine q_loop e35 ?_
    try dsimp only [HAct.put, List.set_cons_zero, List.set_cons_succ]
    exact L2_snd  h
def L0 (k : Nat) : Nat → (List UInt8) → (List UInt8) → Int → Int → Int → Int → Int → Option (Int)
  | 0, _, _, _, _, _, _, _ => none
  | n + 1, y0, y1, y5, y6, y7, y8, y9 =>
    (if y9 < y7 then
    (Option.bind (sat y0 y9) fun p3 =>
    (L0 k n) y0 y1 y5 y6 y7 (IntKind.wrap .u32 ((IntKind.wrap .u32 (y8 * 16777619)) + (IntKind.wrap .u32 (UInt8.toNat p3 : Int)))) (w64 (y9 + 1))) else
    (if y8 = y5 then
    (if 0 ≤ (0 : Int) ∧ (0 : Int) ≤ y7 ∧ (y7 : Int) ≤ (List.length y0 : Int) then
    J1 k y0 y1 y5 y6 y7 y8 (decide ((ssub y0 0 y7) = y1)) else none) else
    J1 k y0 y1 y5 y6 y7 y8 false))
theorem L0_snd {k : Nat}  : ∀ {n : Nat} ⦃y0 : (List UInt8)⦄ ⦃y1 : (List UInt8)⦄ ⦃y5 : Int⦄ ⦃y6 : Int⦄ ⦃y7 : Int⦄ ⦃y8 : Int⦄ ⦃y9 : Int⦄ ⦃S : HS⦄ ⦃p : Int⦄ ⦃g2 g3 g4 g10 g11 g12 g13 g14 g15 g16 g17 g18 g19 g20 g21 g22 g23 g24 g25 g26 g27 g28 g29 g30 g31 g32 g33 g34 g35 g36 g37 g38 g39 g40 g41 g42 g43 g44 g45 g46 g47 g48 g49 g50 g51 g52 g53 g54 g55 g56 g57 g58 g59 g60 g61 g62 g63 g64 g65 g66 g67 g68 g69 g70 g71 g72 g73 g74 g75 g76 g77 g78 g79 g80 : HV⦄, L0 k n y0 y1 y5 y6 y7 y8 y9 = some p → HRun Try.prog base W0 β0 39 none [.inLoop c13, .inBlock 0, .code c23] ⟨[(.str y0), (.str y1), g2, g3, g4, (.int .u32 y5), (.int .u32 y6), (.int .i64 y7), (.int .u32 y8), (.int .i64 y9), g10, g11, g12, g13, g14, g15, g16, g17, g18, g19, g20, g21, g22, g23, g24, g25, g26, g27, g28, g29, g30, g31, g32, g33, g34, g35, g36, g37, g38, g39, g40, g41, g42, g43, g44, g45, g46, g47, g48, g49, g50, g51, g52, g53, g54, g55, g56, g57, g58, g59, g60, g61, g62, g63, g64, g65, g66, g67, g68, g69, g70, g71, g72, g73, g74, g75, g76, g77, g78, g79, g80], []⟩ S (fun v S1 => v = (.int .i64 p) ∧ S1 = S) := by
  intro n
  induction n with
  | zero => intro _ _ _ _ _ _ _ _ _ _ _ _ _ _ _ _ _ _ _ _ _ _ _ _ _ _ _ _ _ _ _ _ _ _ _ _ _ _ _ _ _ _ _ _ _ _ _ _ _ _ _ _ _ _ _ _ _ _ _ _ _ _ _ _ _ _ _ _ _ _ _ _ _ _ _ _ _ _ _ _ _ _ _ h; cases h
  | succ n ih =>
    intro y0 y1 y5 y6 y7 y8 y9 S p g2 g3 g4 g10 g11 g12 g13 g14 g15 g16 g17 g18 g19 g20 g21 g22 g23 g24 g25 g26 g27 g28 g29 g30 g31 g32 g33 g34 g35 g36 g37 g38 g39 g40 g41 g42 g43 g44 g45 g46 g47 g48 g49 g50 g51 g52 g53 g54 g55 g56 g57 g58 g59 g60 g61 g62 g63 g64 g65 g66 g67 g68 g69 g70 g71 g72 g73 g74 g75 g76 g77 g78 g79 g80 h
    simp only [L0] at h
    refine hr_inLoop ?_
    refine q_seq e13 ?_
    refine q_seq e14 ?_
    refine q_region e15 rfl ?_
    refine q_op (dst := some 18) rfl (fun _ ho => ok_move ho (.tmp rfl)) ?_
    refine q_op (dst := some 19) rfl (fun _ ho => ok_move ho (.tmp rfl)) ?_
    refine q_op (dst := some 20) rfl (fun _ ho => ok_ibin ho (.tmp rfl) (.tmp rfl) rfl) ?_
    refine hr_region_end ?_
    try dsimp only [HAct.put, List.set_cons_zero, List.set_cons_succ]
    rcases ifc h with ⟨hc2, h⟩ | ⟨hc2, h⟩
    · refine q_cond_t e16 (.tmp rfl) (decide_eq_true hc2) ?_
      refine q_skipc e17 ?_
      refine q_seq e19 ?_
      refine q_block e20 ?_
      refine q_region e21 rfl ?_
      refine q_op (dst := some 23) rfl (fun _ ho => ok_move ho (.tmp rfl)) ?_
      refine q_op (dst := some 24) rfl (fun _ ho => ok_ibin ho (.tmp rfl) (.int _ _) rfl) ?_
      refine q_op (dst := some 25) rfl (fun _ ho => ok_move ho (.tmp rfl)) ?_
      refine q_op (dst := some 26) rfl (fun _ ho => ok_move ho (.tmp rfl)) ?_
      try dsimp only [HAct.put, List.set_cons_zero, List.set_cons_succ]
      obtain ⟨p3, hp3, h⟩ := bindo h
      refine q_op (dst := some 27) rfl (fun _ ho => ok_index_s ho tu9 (.tmp rfl) (.tmp rfl) hp3) ?_
      refine q_op (dst := some 28) rfl (fun _ ho => ok_conv_int ho tu5 tu68 (.tmp rfl)) ?_
      refine q_op (dst := some 29) rfl (fun _ ho => ok_ibin ho (.tmp rfl) (.tmp rfl) rfl) ?_
      refine q_op (dst := some 8) rfl (fun _ ho => ok_assign ho (.tmp rfl)) ?_
      refine hr_region_end ?_
      try dsimp only [HAct.put, List.set_cons_zero, List.set_cons_succ]
      refine hr_inBlock ?_
      refine q_region e22 rfl ?_
      refine q_op (dst := some 21) rfl (fun _ ho => ok_move ho (.tmp rfl)) ?_
      refine q_op (dst := some 22) rfl (fun _ ho => ok_ibin ho (.tmp rfl) (.int _ _) rfl) ?_
      refine q_op (dst := some 9) rfl (fun _ ho => ok_assign ho (.tmp rfl)) ?_
      refine hr_region_end ?_
      try dsimp only [HAct.put, List.set_cons_zero, List.set_cons_succ]
      try dsimp only [HAct.put, List.set_cons_zero, List.set_cons_succ]
      exact ih h
    · refine q_cond_f e16 (.tmp rfl) (decide_eq_false hc2) ?_
      refine q_exit e18 rfl ?_
      refine q_seq e23 ?_
      refine q_seq e24 ?_
      refine q_region e25 rfl ?_
      refine q_op (dst := some 30) rfl (fun _ ho => ok_move ho (.tmp rfl)) ?_
      refine q_op (dst := some 31) rfl (fun _ ho => ok_move ho (.tmp rfl)) ?_
      refine q_op (dst := some 32) rfl (fun _ ho => ok_ibin ho (.tmp rfl) (.tmp rfl) rfl) ?_
      refine q_op (dst := some 33) rfl (fun _ ho => ok_move ho (.tmp rfl)) ?_
      try dsimp only [HAct.put, List.set_cons_zero, List.set_cons_succ]
      rcases ifc h with ⟨hc4, h⟩ | ⟨hc4, h⟩
      · refine q_op_g (t := 33) (dst := some 34) rfl rfl rfl (decide_eq_true hc4) (fun _ ho => ok_move ho (.tmp rfl)) ?_
        refine q_op_g (t := 33) (dst := some 35) rfl rfl rfl (decide_eq_true hc4) (fun _ ho => ok_move ho (.tmp rfl)) ?_
        obtain ⟨hg5, h⟩ := gd h
        refine q_op_g (t := 33) (dst := some 36) rfl rfl rfl (decide_eq_true hc4) (fun _ ho => ok_slice_str (kl := .i64) (kh := .i64) (l := 0) (h := y7) ho tu9 (.tmp rfl) (.inl ⟨rfl, rfl⟩) (.inr ⟨_, rfl, (.tmp rfl)⟩) hg5.1 hg5.2.1 hg5.2.2) ?_
        refine q_op_g (t := 33) (dst := some 37) rfl rfl rfl (decide_eq_true hc4) (fun _ ho => ok_move ho (.tmp rfl)) ?_
        try dsimp only [HAct.put, List.set_cons_zero, List.set_cons_succ]
        refine q_op_g (t := 33) (dst := some 38) rfl rfl rfl (decide_eq_true hc4) (fun _ ho => ok_sbin ho (.tmp rfl) (.tmp rfl) rfl) ?_
        refine q_op (dst := some 39) rfl (fun _ ho => ok_pick_tt ho (.tmp rfl) (decide_eq_true hc4) (.tmp rfl)) ?_
        refine hr_region_end ?_
        try dsimp only [HAct.put, List.set_cons_zero, List.set_cons_succ]
        try dsimp only [HAct.put, List.set_cons_zero, List.set_cons_succ]
        exact J1_snd  h
      · refine q_skip (dst := some 34) (t := 33) rfl rfl rfl (decide_eq_false hc4) ?_
        refine q_skip (dst := some 35) (t := 33) rfl rfl rfl (decide_eq_false hc4) ?_
        refine q_skip (dst := some 36) (t := 33) rfl rfl rfl (decide_eq_false hc4) ?_
        refine q_skip (dst := some 37) (t := 33) rfl rfl rfl (decide_eq_false hc4) ?_
        try dsimp only [HAct.put, List.set_cons_zero, List.set_cons_succ]
        refine q_skip (dst := some 38) (t := 33) rfl rfl rfl (decide_eq_false hc4) ?_
        refine q_op (dst := some 39) rfl (fun _ ho => ok_pick_ff ho (.tmp rfl) (decide_eq_false hc4) (.bool _)) ?_
        refine hr_region_end ?_
        try dsimp only [HAct.put, List.set_cons_zero, List.set_cons_succ]
        try dsimp only [HAct.put, List.set_cons_zero, List.set_cons_succ]
        exact J1_snd  h
def f (k : Nat) (x0 : (List UInt8)) (x1 : (List UInt8)) : Option (Int) :=
  (Option.bind (internal_bytealg_hashStr_string.f k x1) fun p1 =>
  L0 k k x0 x1 p1.1 p1.2 (List.length x1 : Int) 0 0)
theorem snd {k : Nat} {x0 : (List UInt8)} {x1 : (List UInt8)} {S : HS}  {p : Int} (h : f k x0 x1 = some p) : HCall Try.prog base W0 β0 39 [(.str x0), (.str x1)] S (fun v S1 => v = (.int .i64 p) ∧ S1 = S) := by
  unfold f at h
  refine HCall.of_run at_.at_ body ?_
  show HRun Try.prog base W0 β0 39 none [.code c0] ⟨[(.str x0), (.str x1), .tup [], .tup [], .tup [], .tup [], .tup [], .tup [], .tup [], .tup [], .tup [], .tup [], .tup [], .tup [], .tup [], .tup [], .tup [], .tup [], .tup [], .tup [], .tup [], .tup [], .tup [], .tup [], .tup [], .tup [], .tup [], .tup [], .tup [], .tup [], .tup [], .tup [], .tup [], .tup [], .tup [], .tup [], .tup [], .tup [], .tup [], .tup [], .tup [], .tup [], .tup [], .tup [], .tup [], .tup [], .tup [], .tup [], .tup [], .tup [], .tup [], .tup [], .tup [], .tup [], .tup [], .tup [], .tup [], .tup [], .tup [], .tup [], .tup [], .tup [], .tup [], .tup [], .tup [], .tup [], .tup [], .tup [], .tup [], .tup [], .tup [], .tup [], .tup [], .tup [], .tup [], .tup [], .tup [], .tup [], .tup [], .tup [], .tup []], []⟩ S _
  refine q_seq e0 ?_
  refine q_region e1 rfl ?_
  refine q_op (dst := some 4) rfl (fun _ ho => ok_assign ho (.int _ _)) ?_
  refine hr_region_end ?_
  try dsimp only [HAct.put, List.set_cons_zero, List.set_cons_succ]
  refine q_seq e2 ?_
  refine q_region e3 rfl ?_
  refine q_op (dst := some 12) rfl (fun _ ho => ok_move ho (.tmp rfl)) ?_
  obtain ⟨p1, hp1, h⟩ := bindo h
  refine q_call (dst := some 13) rfl (.func _) (.cons (.tmp rfl) Evs.nil) (HInv.static internal_bytealg_hashStr_string.at_ internal_bytealg_hashStr_string.body (internal_bytealg_hashStr_string.snd  hp1)) ?_
  rintro _ _ ⟨rfl, rfl⟩
  refine q_op (dst := some 11) rfl (fun _ ho => ok_move ho (.tmp rfl)) ?_
  refine q_op (dst := some 14) rfl (fun _ ho => ok_extract ho (.tmp rfl) rfl) ?_
  try dsimp only [HAct.put, List.set_cons_zero, List.set_cons_succ]
  refine q_op (dst := some 15) rfl (fun _ ho => ok_extract ho (.tmp rfl) rfl) ?_
  refine q_op (dst := some 5) rfl (fun _ ho => ok_assign ho (.tmp rfl)) ?_
  refine q_op (dst := some 6) rfl (fun _ ho => ok_assign ho (.tmp rfl)) ?_
  refine hr_region_end ?_
  try dsimp only [HAct.put, List.set_cons_zero, List.set_cons_succ]
  refine q_seq e4 ?_
  refine q_region e5 rfl ?_
  refine q_op (dst := some 16) rfl (fun _ ho => ok_move ho (.tmp rfl)) ?_
  refine q_op (dst := some 17) rfl (fun _ ho => ok_len_str ho rfl tu9 (.tmp rfl)) ?_
  refine q_op (dst := some 7) rfl (fun _ ho => ok_assign ho (.tmp rfl)) ?_
  refine hr_region_end ?_
  try dsimp only [HAct.put, List.set_cons_zero, List.set_cons_succ]
  refine q_seq e6 ?_
  refine q_region e7 rfl ?_
  refine q_op (dst := some 8) rfl (fun _ ho => ok_assign ho (.int _ _)) ?_
  refine hr_region_end ?_
  try dsimp only [HAct.put, List.set_cons_zero, List.set_cons_succ]
  refine q_seq e8 ?_
  refine q_seq e9 ?_
  refine q_region e10 rfl ?_
  refine q_op (dst := some 9) rfl (fun _ ho => ok_assign ho (.int _ _)) ?_
  refine hr_region_end ?_
  try dsimp only [HAct.put, List.set_cons_zero, List.set_cons_succ]
  refine q_block e11 ?_
  refine q_loop e12 ?_
  try dsimp only [HAct.put, List.set_cons_zero, List.set_cons_succ]
  exact L0_snd  h
end
end internal_bytealg_IndexRabinKarp_string
namespace internal_stringslite_Index
theorem at_ : FnAt Try.prog 33 Try.f33 := ⟨Try.func33, by kernel_rfl⟩
noncomputable def c0 : Code := (Try.f33.body).getD .skip
theorem body : Try.f33.body = some c0 := by kernel_rfl
def f (x0 : (List UInt8)) (x1 : (List UInt8)) (S : HS) : Option (((Int)) × HS) := none
theorem snd {base : Nat} {W0 : World} {β0 : Bt} {x0 : (List UInt8)} {x1 : (List UInt8)} {S : HS} {p : ((Int)) × HS} (h : f x0 x1 S = some p) : HCall Try.prog base W0 β0 33 [(.str x0), (.str x1)] S (fun v S1 => v = (.int .i64 p.1) ∧ S1 = p.2) := by cases h
end internal_stringslite_Index
namespace internal_stringslite_Cut
abbrev id : Nat := 30
theorem at_ : FnAt Try.prog 30 Try.f30 := ⟨Try.func30, by kernel_rfl⟩
noncomputable def c0 : Code := (Try.f30.body).getD .skip
noncomputable def c1 : Code := match c0 with | .seq x _ => x | _ => .skip
noncomputable def c2 : Code := match c0 with | .seq _ x => x | _ => .skip
noncomputable def c3 : Code := match c2 with | .seq x _ => x | _ => .skip
noncomputable def c4 : Code := match c3 with | .seq x _ => x | _ => .skip
noncomputable def c5 : Code := match c3 with | .seq _ x => x | _ => .skip
noncomputable def c6 : Code := match c5 with | .seq x _ => x | _ => .skip
noncomputable def c7 : Code := match c5 with | .seq _ x => x | _ => .skip
noncomputable def c8 : Code := match c7 with | .cond _ x _ => x | _ => .skip
noncomputable def c9 : Code := match c8 with | .seq x _ => x | _ => .skip
noncomputable def c10 : Code := match c8 with | .seq _ x => x | _ => .skip
noncomputable def c11 : Code := match c7 with | .cond _ _ x => x | _ => .skip
noncomputable def c12 : Code := match c2 with | .seq _ x => x | _ => .skip
noncomputable def c13 : Code := match c12 with | .seq x _ => x | _ => .skip
noncomputable def c14 : Code := match c12 with | .seq _ x => x | _ => .skip
theorem e0 : c0 = .seq c1 c2 := by kernel_rfl
noncomputable def r1 : Array Oper := match c1 with | .region _ x _ => x | _ => #[]
theorem e1 : c1 = .region 0 r1 false := by kernel_rfl
theorem e2 : c2 = .seq c3 c12 := by kernel_rfl
theorem e3 : c3 = .seq c4 c5 := by kernel_rfl
noncomputable def r4 : Array Oper := match c4 with | .region _ x _ => x | _ => #[]
theorem e4 : c4 = .region 1 r4 false := by kernel_rfl
theorem e5 : c5 = .seq c6 c7 := by kernel_rfl
noncomputable def r6 : Array Oper := match c6 with | .region _ x _ => x | _ => #[]
theorem e6 : c6 = .region 2 r6 false := by kernel_rfl
theorem e7 : c7 = .cond (.tmp 12) c8 c11 := by kernel_rfl
theorem e8 : c8 = .seq c9 c10 := by kernel_rfl
noncomputable def r9 : Array Oper := match c9 with | .region _ x _ => x | _ => #[]
theorem e9 : c9 = .region 3 r9 true := by kernel_rfl
theorem e10 : c10 = .ret := by kernel_rfl
theorem e11 : c11 = .skip := by kernel_rfl
theorem e12 : c12 = .seq c13 c14 := by kernel_rfl
noncomputable def r13 : Array Oper := match c13 with | .region _ x _ => x | _ => #[]
theorem e13 : c13 = .region 4 r13 false := by kernel_rfl
theorem e14 : c14 = .ret := by kernel_rfl
theorem body : Try.f30.body = some c0 := by kernel_rfl
section
variable {base : Nat} {W0 : World} {β0 : Bt}
def f (x0 : (List UInt8)) (x1 : (List UInt8)) (S : HS) : Option (((List UInt8) × (List UInt8) × Bool) × HS) :=
  (Option.bind (internal_stringslite_Index.f x0 x1 S) fun p1 =>
  (if p1.1 ≥ 0 then
  (if 0 ≤ (0 : Int) ∧ (0 : Int) ≤ p1.1 ∧ (p1.1 : Int) ≤ (List.length x0 : Int) then
  (if 0 ≤ ((w64 (p1.1 + (List.length x1 : Int))) : Int) ∧ ((w64 (p1.1 + (List.length x1 : Int))) : Int) ≤ (List.length x0 : Int) ∧ ((List.length x0 : Int) : Int) ≤ (List.length x0 : Int) then
  some (((ssub x0 0 p1.1), (ssub x0 (w64 (p1.1 + (List.length x1 : Int))) (List.length x0 : Int)), true), p1.2) else none) else none) else
  some ((x0, ([] : List UInt8), false), p1.2)))
theorem snd {x0 : (List UInt8)} {x1 : (List UInt8)} {S : HS}  {p : ((List UInt8) × (List UInt8) × Bool) × HS} (h : f x0 x1 S = some p) : HCall Try.prog base W0 β0 30 [(.str x0), (.str x1)] S (fun v S1 => v = (.tup [(.str p.1.1), (.str p.1.2.1), (.bool p.1.2.2)]) ∧ S1 = p.2) := by
  unfold f at h
  refine HCall.of_run at_.at_ body ?_
  show HRun Try.prog base W0 β0 30 none [.code c0] ⟨[(.str x0), (.str x1), .tup [], .tup [], .tup [], .tup [], .tup [], .tup [], .tup [], .tup [], .tup [], .tup [], .tup [], .tup [], .tup [], .tup [], .tup [], .tup [], .tup [], .tup [], .tup [], .tup [], .tup []], []⟩ S _
  refine q_seq e0 ?_
  refine q_region e1 rfl ?_
  refine q_op (dst := some 4) rfl (fun _ ho => ok_assign ho (.str _)) ?_
  refine q_op (dst := some 5) rfl (fun _ ho => ok_assign ho (.str _)) ?_
  refine q_op (dst := some 6) rfl (fun _ ho => ok_assign ho (.bool _)) ?_
  refine hr_region_end ?_
  try dsimp only [HAct.put, List.set_cons_zero, List.set_cons_succ]
  refine q_seq e2 ?_
  refine q_seq e3 ?_
  refine q_region e4 rfl ?_
  refine q_op (dst := some 8) rfl (fun _ ho => ok_move ho (.tmp rfl)) ?_
  refine q_op (dst := some 9) rfl (fun _ ho => ok_move ho (.tmp rfl)) ?_
  obtain ⟨p1, hp1, h⟩ := bindo h
  refine q_call (dst := some 10) rfl (.func _) (.cons (.tmp rfl) (.cons (.tmp rfl) Evs.nil)) (HInv.static internal_stringslite_Index.at_ internal_stringslite_Index.body (internal_stringslite_Index.snd  hp1)) ?_
  rintro _ _ ⟨rfl, rfl⟩
  refine q_op (dst := some 7) rfl (fun _ ho => ok_assign ho (.tmp rfl)) ?_
  refine hr_region_end ?_
  try dsimp only [HAct.put, List.set_cons_zero, List.set_cons_succ]
  refine q_seq e5 ?_
  refine q_region e6 rfl ?_
  refine q_op (dst := some 11) rfl (fun _ ho => ok_move ho (.tmp rfl)) ?_
  refine q_op (dst := some 12) rfl (fun _ ho => ok_ibin ho (.tmp rfl) (.int _ _) rfl) ?_
  refine hr_region_end ?_
  try dsimp only [HAct.put, List.set_cons_zero, List.set_cons_succ]
  rcases ifc h with ⟨hc2, h⟩ | ⟨hc2, h⟩
  · refine q_cond_t e7 (.tmp rfl) (decide_eq_true hc2) ?_
    refine q_seq e8 ?_
    refine x_start (cls := [0, 0, 0, 0, 0, 0, 0, 0, 0, 0, 0, 0]) (rk := [0, 1, 2, 3, 4, 5, 6, 7, 8, 9, 10, 11]) e9 (by kernel_rfl) ?_
    refine x_go (f_op (dst := some 13) (ts := [0]) rfl (by intro _ _ h; cases h) (by kernel_rfl) (fun _ _ ho => ok_move ho (.tmp rfl))) rfl ?_
    refine x_go (f_op (dst := some 14) (ts := [7]) rfl (by intro _ _ h; cases h) (by kernel_rfl) (fun _ _ ho => ok_move ho (.tmp rfl))) rfl ?_
    obtain ⟨hg3, h⟩ := gd h
    refine x_go (f_op (dst := some 15) (ts := [13, 14]) rfl (by intro _ _ h; cases h) (by kernel_rfl) (fun _ _ ho => ok_slice_str (kl := .i64) (kh := .i64) (l := 0) (h := p1.1) ho tu9 (.tmp rfl) (.inl ⟨rfl, rfl⟩) (.inr ⟨_, rfl, (.tmp rfl)⟩) hg3.1 hg3.2.1 hg3.2.2)) rfl ?_
    refine x_go (f_op (dst := some 16) (ts := [0]) rfl (by intro _ _ h; cases h) (by kernel_rfl) (fun _ _ ho => ok_move ho (.tmp rfl))) rfl ?_
    try dsimp only [HAct.put, List.set_cons_zero, List.set_cons_succ]
    refine x_go (f_op (dst := some 17) (ts := [7]) rfl (by intro _ _ h; cases h) (by kernel_rfl) (fun _ _ ho => ok_move ho (.tmp rfl))) rfl ?_
    refine x_go (f_op (dst := some 18) (ts := [1]) rfl (by intro _ _ h; cases h) (by kernel_rfl) (fun _ _ ho => ok_move ho (.tmp rfl))) rfl ?_
    refine x_go (f_op (dst := some 19) (ts := [18]) rfl (by intro _ _ h; cases h) (by kernel_rfl) (fun _ _ ho => ok_len_str ho rfl tu9 (.tmp rfl))) rfl ?_
    refine x_go (f_op (dst := some 20) (ts := [17, 19]) rfl (by intro _ _ h; cases h) (by kernel_rfl) (fun _ _ ho => ok_ibin ho (.tmp rfl) (.tmp rfl) rfl)) rfl ?_
    try dsimp only [HAct.put, List.set_cons_zero, List.set_cons_succ]
    obtain ⟨hg4, h⟩ := gd h
    refine x_go (f_op (dst := some 21) (ts := [16, 20]) rfl (by intro _ _ h; cases h) (by kernel_rfl) (fun _ _ ho => ok_slice_str (kl := .i64) (kh := .i64) (l := (w64 (p1.1 + (List.length x1 : Int)))) (h := (List.length x0 : Int)) ho tu9 (.tmp rfl) (.inr ⟨_, rfl, (.tmp rfl)⟩) (.inl ⟨rfl, rfl⟩) hg4.1 hg4.2.1 hg4.2.2)) rfl ?_
    refine x_go (f_op (dst := some 4) (ts := [15]) rfl (by intro _ _ h; cases h) (by kernel_rfl) (fun _ _ ho => ok_assign ho (.tmp rfl))) rfl ?_
    refine x_go (f_op (dst := some 5) (ts := [21]) rfl (by intro _ _ h; cases h) (by kernel_rfl) (fun _ _ ho => ok_assign ho (.tmp rfl))) rfl ?_
    refine x_go (f_op (dst := some 6) (ts := []) rfl (by intro _ _ h; cases h) (by kernel_rfl) (fun _ _ ho => ok_assign ho (.bool _))) rfl ?_
    refine x_rest rfl ?_
    refine hr_region_end ?_
    try dsimp only [HAct.put, List.set_cons_zero, List.set_cons_succ]
    cases h
    exact q_ret e10 at_.at_ rfl (res3 rfl rfl rfl rfl) ⟨rfl, rfl⟩
  · refine q_cond_f e7 (.tmp rfl) (decide_eq_false hc2) ?_
    refine q_skipc e11 ?_
    refine q_seq e12 ?_
    refine q_region e13 rfl ?_
    refine q_op (dst := some 22) rfl (fun _ ho => ok_move ho (.tmp rfl)) ?_
    refine q_op (dst := some 4) rfl (fun _ ho => ok_assign ho (.tmp rfl)) ?_
    refine q_op (dst := some 5) rfl (fun _ ho => ok_assign ho (.str _)) ?_
    refine q_op (dst := some 6) rfl (fun _ ho => ok_assign ho (.bool _)) ?_
    refine hr_region_end ?_
    try dsimp only [HAct.put, List.set_cons_zero, List.set_cons_succ]
    cases h
    exact q_ret e14 at_.at_ rfl (res3 rfl rfl rfl rfl) ⟨rfl, rfl⟩
end
end internal_stringslite_Cut
namespace strings_Cut
abbrev id : Nat := 26
theorem at_ : FnAt Try.prog 26 Try.f26 := ⟨Try.func26, by kernel_rfl⟩
noncomputable def c0 : Code := (Try.f26.body).getD .skip
noncomputable def c1 : Code := match c0 with | .seq x _ => x | _ => .skip
noncomputable def c2 : Code := match c0 with | .seq _ x => x | _ => .skip
noncomputable def c3 : Code := match c2 with | .seq x _ => x | _ => .skip
noncomputable def c4 : Code := match c2 with | .seq _ x => x | _ => .skip
theorem e0 : c0 = .seq c1 c2 := by kernel_rfl
noncomputable def r1 : Array Oper := match c1 with | .region _ x _ => x | _ => #[]
theorem e1 : c1 = .region 0 r1 false := by kernel_rfl
theorem e2 : c2 = .seq c3 c4 := by kernel_rfl
noncomputable def r3 : Array Oper := match c3 with | .region _ x _ => x | _ => #[]
theorem e3 : c3 = .region 1 r3 false := by kernel_rfl
theorem e4 : c4 = .ret := by kernel_rfl
theorem body : Try.f26.body = some c0 := by kernel_rfl
section
variable {base : Nat} {W0 : World} {β0 : Bt}
def f (x0 : (List UInt8)) (x1 : (List UInt8)) (S : HS) : Option (((List UInt8) × (List UInt8) × Bool) × HS) :=
  (Option.bind (internal_stringslite_Cut.f x0 x1 S) fun p1 =>
  some ((p1.1.1, p1.1.2.1, p1.1.2.2), p1.2))
theorem snd {x0 : (List UInt8)} {x1 : (List UInt8)} {S : HS}  {p : ((List UInt8) × (List UInt8) × Bool) × HS} (h : f x0 x1 S = some p) : HCall Try.prog base W0 β0 26 [(.str x0), (.str x1)] S (fun v S1 => v = (.tup [(.str p.1.1), (.str p.1.2.1), (.bool p.1.2.2)]) ∧ S1 = p.2) := by
  unfold f at h
  refine HCall.of_run at_.at_ body ?_
  show HRun Try.prog base W0 β0 26 none [.code c0] ⟨[(.str x0), (.str x1), .tup [], .tup [], .tup [], .tup [], .tup [], .tup [], .tup [], .tup [], .tup [], .tup [], .tup []], []⟩ S _
  refine q_seq e0 ?_
  refine q_region e1 rfl ?_
  refine q_op (dst := some 4) rfl (fun _ ho => ok_assign ho (.str _)) ?_
  refine q_op (dst := some 5) rfl (fun _ ho => ok_assign ho (.str _)) ?_
  refine q_op (dst := some 6) rfl (fun _ ho => ok_assign ho (.bool _)) ?_
  refine hr_region_end ?_
  try dsimp only [HAct.put, List.set_cons_zero, List.set_cons_succ]
  refine q_seq e2 ?_
  refine q_region e3 rfl ?_
  refine q_op (dst := some 7) rfl (fun _ ho => ok_move ho (.tmp rfl)) ?_
  refine q_op (dst := some 8) rfl (fun _ ho => ok_move ho (.tmp rfl)) ?_
  obtain ⟨p1, hp1, h⟩ := bindo h
  refine q_call (dst := some 9) rfl (.func _) (.cons (.tmp rfl) (.cons (.tmp rfl) Evs.nil)) (HInv.static internal_stringslite_Cut.at_ internal_stringslite_Cut.body (internal_stringslite_Cut.snd  hp1)) ?_
  rintro _ _ ⟨rfl, rfl⟩
  refine q_op (dst := some 10) rfl (fun _ ho => ok_extract ho (.tmp rfl) rfl) ?_
  try dsimp only [HAct.put, List.set_cons_zero, List.set_cons_succ]
  refine q_op (dst := some 11) rfl (fun _ ho => ok_extract ho (.tmp rfl) rfl) ?_
  refine q_op (dst := some 12) rfl (fun _ ho => ok_extract ho (.tmp rfl) rfl) ?_
  refine q_op (dst := some 4) rfl (fun _ ho => ok_assign ho (.tmp rfl)) ?_
  refine q_op (dst := some 5) rfl (fun _ ho => ok_assign ho (.tmp rfl)) ?_
  try dsimp only [HAct.put, List.set_cons_zero, List.set_cons_succ]
  refine q_op (dst := some 6) rfl (fun _ ho => ok_assign ho (.tmp rfl)) ?_
  refine hr_region_end ?_
  try dsimp only [HAct.put, List.set_cons_zero, List.set_cons_succ]
  cases h
  exact q_ret e4 at_.at_ rfl (res3 rfl rfl rfl rfl) ⟨rfl, rfl⟩
end
end strings_Cut
namespace sendq_Queue_Lines_2
abbrev id : Nat := 25
theorem at_ : FnAt Try.prog 25 Try.f25 := ⟨Try.func25, by kernel_rfl⟩
noncomputable def c0 : Code := (Try.f25.body).getD .skip
noncomputable def c1 : Code := match c0 with | .seq x _ => x | _ => .skip
noncomputable def c2 : Code := match c0 with | .seq _ x => x | _ => .skip
noncomputable def c3 : Code := match c2 with | .block _ x => x | _ => .skip
noncomputable def c4 : Code := match c3 with | .loop x => x | _ => .skip
noncomputable def c5 : Code := match c4 with | .seq x _ => x | _ => .skip
noncomputable def c6 : Code := match c5 with | .seq x _ => x | _ => .skip
noncomputable def c7 : Code := match c5 with | .seq _ x => x | _ => .skip
noncomputable def c8 : Code := match c7 with | .cond _ x _ => x | _ => .skip
noncomputable def c9 : Code := match c7 with | .cond _ _ x => x | _ => .skip
noncomputable def c10 : Code := match c4 with | .seq _ x => x | _ => .skip
noncomputable def c11 : Code := match c10 with | .block _ x => x | _ => .skip
noncomputable def c12 : Code := match c11 with | .seq x _ => x | _ => .skip
noncomputable def c13 : Code := match c11 with | .seq _ x => x | _ => .skip
noncomputable def c14 : Code := match c13 with | .seq x _ => x | _ => .skip
noncomputable def c15 : Code := match c14 with | .seq x _ => x | _ => .skip
noncomputable def c16 : Code := match c14 with | .seq _ x => x | _ => .skip
noncomputable def c17 : Code := match c16 with | .cond _ x _ => x | _ => .skip
noncomputable def c18 : Code := match c16 with | .cond _ _ x => x | _ => .skip
noncomputable def c19 : Code := match c13 with | .seq _ x => x | _ => .skip
theorem e0 : c0 = .seq c1 c2 := by kernel_rfl
noncomputable def r1 : Array Oper := match c1 with | .region _ x _ => x | _ => #[]
theorem e1 : c1 = .region 0 r1 false := by kernel_rfl
theorem e2 : c2 = .block 0 c3 := by kernel_rfl
theorem e3 : c3 = .loop c4 := by kernel_rfl
theorem e4 : c4 = .seq c5 c10 := by kernel_rfl
theorem e5 : c5 = .seq c6 c7 := by kernel_rfl
noncomputable def r6 : Array Oper := match c6 with | .region _ x _ => x | _ => #[]
theorem e6 : c6 = .region 1 r6 false := by kernel_rfl
theorem e7 : c7 = .cond (.tmp 9) c8 c9 := by kernel_rfl
theorem e8 : c8 = .skip := by kernel_rfl
theorem e9 : c9 = .exit 0 := by kernel_rfl
theorem e10 : c10 = .block 1 c11 := by kernel_rfl
theorem e11 : c11 = .seq c12 c13 := by kernel_rfl
noncomputable def r12 : Array Oper := match c12 with | .region _ x _ => x | _ => #[]
theorem e12 : c12 = .region 2 r12 false := by kernel_rfl
theorem e13 : c13 = .seq c14 c19 := by kernel_rfl
theorem e14 : c14 = .seq c15 c16 := by kernel_rfl
noncomputable def r15 : Array Oper := match c15 with | .region _ x _ => x | _ => #[]
theorem e15 : c15 = .region 3 r15 false := by kernel_rfl
theorem e16 : c16 = .cond (.tmp 19) c17 c18 := by kernel_rfl
theorem e17 : c17 = .ret := by kernel_rfl
theorem e18 : c18 = .skip := by kernel_rfl
noncomputable def r19 : Array Oper := match c19 with | .region _ x _ => x | _ => #[]
theorem e19 : c19 = .region 4 r19 false := by kernel_rfl
theorem body : Try.f25.body = some c0 := by kernel_rfl
section
variable {base : Nat} {W0 : World} {β0 : Bt}
def L0 (D : Dp) (H : Hd) (k : Nat) : Nat → HV → (List UInt8) → HS → Option ((Unit) × HS)
  | 0, _, _, _ => none
  | n + 1, y0, y3, S =>
    (if (!decide (y3 = ([] : List UInt8))) = true then
    (Option.bind (strings_Cut.f y3 ([13, 10] : List UInt8) S) fun p4 =>
    (Option.bind (D H y0 [(.str p4.1.1)] p4.2) fun p5 =>
    (Option.bind (dB p5.1) fun p6 =>
    (if (!p6) = true then
    some ((), p5.2) else
    (L0 D H k n) y0 p4.1.2.1 p5.2)))) else
    some ((), S))
theorem L0_snd {D : Dp} {H : Hd} {k : Nat} (hD : DSound Try.prog base W0 D) (hH : HSound Try.prog base W0 β0 H)  : ∀ {n : Nat} ⦃y0 : HV⦄ ⦃y3 : (List UInt8)⦄ ⦃S : HS⦄ ⦃p : (Unit) × HS⦄ ⦃g1 g2 g4 g5 g6 g7 g8 g9 g10 g11 g12 g13 g14 g15 g16 g17 g18 g19 g20 : HV⦄, L0 D H k n y0 y3 S = some p → HRun Try.prog base W0 β0 25 none [.inLoop c4, .inBlock 0] ⟨[y0, g1, g2, (.str y3), g4, g5, g6, g7, g8, g9, g10, g11, g12, g13, g14, g15, g16, g17, g18, g19, g20], []⟩ S (fun v S1 => v = (.tup []) ∧ S1 = p.2) := by
  intro n
  induction n with
  | zero => intro _ _ _ _ _ _ _ _ _ _ _ _ _ _ _ _ _ _ _ _ _ _ _ h; cases h
  | succ n ih =>
    intro y0 y3 S p g1 g2 g4 g5 g6 g7 g8 g9 g10 g11 g12 g13 g14 g15 g16 g17 g18 g19 g20 h
    simp only [L0] at h
    refine hr_inLoop ?_
    refine q_seq e4 ?_
    refine q_seq e5 ?_
    refine q_region e6 rfl ?_
    refine q_op (dst := some 8) rfl (fun _ ho => ok_move ho (.tmp rfl)) ?_
    refine q_op (dst := some 9) rfl (fun _ ho => ok_sbin ho (.tmp rfl) (.str _) rfl) ?_
    refine hr_region_end ?_
    try dsimp only [HAct.put, List.set_cons_zero, List.set_cons_succ]
    rcases ifc h with ⟨hc3, h⟩ | ⟨hc3, h⟩
    · refine q_cond_t e7 (.tmp rfl) hc3 ?_
      refine q_skipc e8 ?_
      refine q_block e10 ?_
      refine q_seq e11 ?_
      refine q_region e12 rfl ?_
      refine q_op (dst := some 11) rfl (fun _ ho => ok_move ho (.tmp rfl)) ?_
      obtain ⟨p4, hp4, h⟩ := bindo h
      refine q_call (dst := some 12) rfl (.func _) (.cons (.tmp rfl) (.cons (.str _) Evs.nil)) (HInv.static strings_Cut.at_ strings_Cut.body (strings_Cut.snd  hp4)) ?_
      rintro _ _ ⟨rfl, rfl⟩
      refine q_op (dst := some 10) rfl (fun _ ho => ok_move ho (.tmp rfl)) ?_
      refine q_op (dst := some 13) rfl (fun _ ho => ok_extract ho (.tmp rfl) rfl) ?_
      try dsimp only [HAct.put, List.set_cons_zero, List.set_cons_succ]
      refine q_op (dst := some 14) rfl (fun _ ho => ok_extract ho (.tmp rfl) rfl) ?_
      refine q_op (dst := some 15) rfl (fun _ ho => ok_extract ho (.tmp rfl) rfl) ?_
      refine q_op (dst := some 4) rfl (fun _ ho => ok_assign ho (.tmp rfl)) ?_
      refine q_op (dst := some 5) rfl (fun _ ho => ok_assign ho (.tmp rfl)) ?_
      try dsimp only [HAct.put, List.set_cons_zero, List.set_cons_succ]
      refine q_op (dst := some 6) rfl (fun _ ho => ok_assign ho (.tmp rfl)) ?_
      refine hr_region_end ?_
      try dsimp only [HAct.put, List.set_cons_zero, List.set_cons_succ]
      refine q_seq e13 ?_
      refine q_seq e14 ?_
      refine q_region e15 rfl ?_
      refine q_op (dst := some 16) rfl (fun _ ho => ok_move ho (.tmp rfl)) ?_
      refine q_op (dst := some 17) rfl (fun _ ho => ok_move ho (.tmp rfl)) ?_
      obtain ⟨p5, hp5, h⟩ := bindo h
      obtain ⟨p6, hp6, h⟩ := bindo h
      refine q_call (dst := some 18) rfl (.tmp rfl) (.cons (.tmp rfl) Evs.nil) (hD _ _ hH _ _ _ _ _ hp5) ?_
      rintro _ _ ⟨rfl, rfl⟩
      rw [dB_out hp6]
      refine q_op (dst := some 19) rfl (fun _ ho => ok_not ho (.tmp rfl)) ?_
      refine hr_region_end ?_
      try dsimp only [HAct.put, List.set_cons_zero, List.set_cons_succ]
      rcases ifc h with ⟨hc7, h⟩ | ⟨hc7, h⟩
      · refine q_cond_t e16 (.tmp rfl) hc7 ?_
        cases h
        exact q_ret e17 at_.at_ rfl (res0 rfl) ⟨rfl, rfl⟩
      · refine q_cond_f e16 (.tmp rfl) (bfalse hc7) ?_
        refine q_skipc e18 ?_
        refine q_region e19 rfl ?_
        refine q_op (dst := some 20) rfl (fun _ ho => ok_move ho (.tmp rfl)) ?_
        refine q_op (dst := some 3) rfl (fun _ ho => ok_assign ho (.tmp rfl)) ?_
        refine hr_region_end ?_
        try dsimp only [HAct.put, List.set_cons_zero, List.set_cons_succ]
        refine hr_inBlock ?_
        try dsimp only [HAct.put, List.set_cons_zero, List.set_cons_succ]
        exact ih h
    · refine q_cond_f e7 (.tmp rfl) (bfalse hc3) ?_
      refine q_exit e9 rfl ?_
      cases h
      exact q_end at_.at_ rfl (res0 rfl) ⟨rfl, rfl⟩
def f (D : Dp) (H : Hd) (k : Nat) (x0 : HV) (x1 : (Option HA)) (S : HS) : Option ((Unit) × HS) :=
  (Option.bind (x1) fun p1 =>
  (Option.bind (HS.ldS S p1) fun p2 =>
  L0 D H k k x0 p2 S))
theorem snd {D : Dp} {H : Hd} {k : Nat} {x0 : HV} {x1 : (Option HA)} {S : HS} (hD : DSound Try.prog base W0 D) (hH : HSound Try.prog base W0 β0 H)  {p : (Unit) × HS} (h : f D H k x0 x1 S = some p) : HCall Try.prog base W0 β0 25 [x0, (.ptr x1)] S (fun v S1 => v = (.tup []) ∧ S1 = p.2) := by
  unfold f at h
  refine HCall.of_run at_.at_ body ?_
  show HRun Try.prog base W0 β0 25 none [.code c0] ⟨[x0, (.ptr x1), .tup [], .tup [], .tup [], .tup [], .tup [], .tup [], .tup [], .tup [], .tup [], .tup [], .tup [], .tup [], .tup [], .tup [], .tup [], .tup [], .tup [], .tup [], .tup []], []⟩ S _
  refine q_seq e0 ?_
  refine q_region e1 rfl ?_
  obtain ⟨p1, hp1, h⟩ := bindo h
  obtain ⟨p2, hp2, h⟩ := bindo h
  refine q_op (dst := some 7) rfl (fun _ ho => ok_load_s ho sc9 (.tmp rfl) hp1 (ldS_out hp2)) ?_
  refine q_op (dst := some 3) rfl (fun _ ho => ok_assign ho (.tmp rfl)) ?_
  refine hr_region_end ?_
  try dsimp only [HAct.put, List.set_cons_zero, List.set_cons_succ]
  refine q_block e2 ?_
  refine q_loop e3 ?_
  try dsimp only [HAct.put, List.set_cons_zero, List.set_cons_succ]
  exact L0_snd hD hH h
end
end sendq_Queue_Lines_2
namespace sendq_Queue_Lines
abbrev id : Nat := 20
theorem at_ : FnAt Try.prog 20 Try.f20 := ⟨Try.func20, by kernel_rfl⟩
noncomputable def c0 : Code := (Try.f20.body).getD .skip
noncomputable def c1 : Code := match c0 with | .seq x _ => x | _ => .skip
noncomputable def c2 : Code := match c0 with | .seq _ x => x | _ => .skip
noncomputable def c3 : Code := match c2 with | .seq x _ => x | _ => .skip
noncomputable def c4 : Code := match c3 with | .seq x _ => x | _ => .skip
noncomputable def c5 : Code := match c3 with | .seq _ x => x | _ => .skip
noncomputable def c6 : Code := match c5 with | .cond _ x _ => x | _ => .skip
noncomputable def c7 : Code := match c6 with | .seq x _ => x | _ => .skip
noncomputable def c8 : Code := match c6 with | .seq _ x => x | _ => .skip
noncomputable def c9 : Code := match c5 with | .cond _ _ x => x | _ => .skip
noncomputable def c10 : Code := match c2 with | .seq _ x => x | _ => .skip
noncomputable def c11 : Code := match c10 with | .seq x _ => x | _ => .skip
noncomputable def c12 : Code := match c10 with | .seq _ x => x | _ => .skip
noncomputable def c13 : Code := match c12 with | .seq x _ => x | _ => .skip
noncomputable def c14 : Code := match c12 with | .seq _ x => x | _ => .skip
theorem e0 : c0 = .seq c1 c2 := by kernel_rfl
noncomputable def r1 : Array Oper := match c1 with | .region _ x _ => x | _ => #[]
theorem e1 : c1 = .region 0 r1 false := by kernel_rfl
theorem e2 : c2 = .seq c3 c10 := by kernel_rfl
theorem e3 : c3 = .seq c4 c5 := by kernel_rfl
noncomputable def r4 : Array Oper := match c4 with | .region _ x _ => x | _ => #[]
theorem e4 : c4 = .region 1 r4 false := by kernel_rfl
theorem e5 : c5 = .cond (.tmp 5) c6 c9 := by kernel_rfl
theorem e6 : c6 = .seq c7 c8 := by kernel_rfl
noncomputable def r7 : Array Oper := match c7 with | .region _ x _ => x | _ => #[]
theorem e7 : c7 = .region 2 r7 false := by kernel_rfl
theorem e8 : c8 = .ret := by kernel_rfl
theorem e9 : c9 = .skip := by kernel_rfl
theorem e10 : c10 = .seq c11 c12 := by kernel_rfl
noncomputable def r11 : Array Oper := match c11 with | .region _ x _ => x | _ => #[]
theorem e11 : c11 = .region 3 r11 true := by kernel_rfl
theorem e12 : c12 = .seq c13 c14 := by kernel_rfl
noncomputable def r13 : Array Oper := match c13 with | .region _ x _ => x | _ => #[]
theorem e13 : c13 = .region 4 r13 false := by kernel_rfl
theorem e14 : c14 = .ret := by kernel_rfl
theorem body : Try.f20.body = some c0 := by kernel_rfl
section
variable {base : Nat} {W0 : World} {β0 : Bt}
def f (x0 : (Option HA)) (S : HS) : Option ((HV) × HS) :=
  (if (Option.isNone x0) = true then
  some ((HV.fn (.func 24) [] []), S) else
  (Option.bind (x0) fun p2 =>
  (Option.bind (HS.ldSl S (HA.fld p2 1)) fun p3 =>
  (Option.bind (x0) fun p4 =>
  (Option.bind (HS.ldI S .i64 (HA.fld p4 2)) fun p5 =>
  (Option.bind (HS.cut S p3 p5 (Sl.len p3 : Int) 1) fun p6 =>
  (Option.bind (HS.text S p6) fun p7 =>
  (letv (HS.new S (.cells 1 [[(.str [])]] true)) fun p8 =>
  (Option.bind (HS.text p8 p6) fun p9 =>
  (if p9 = p7 then
  (Option.bind (HS.cut p8 p3 p5 (Sl.len p3 : Int) 1) fun p11 =>
  (if p11 = p6 then
  (Option.bind (HS.ldI p8 .i64 (HA.fld p4 2)) fun p13 =>
  (if p13 = p5 then
  (Option.bind (HS.ldSl p8 (HA.fld p2 1)) fun p15 =>
  (if p15 = p3 then
  (Option.bind (HS.sets p8 (HA.cell0 S.next) [(.str p7)]) fun p17 =>
  some ((HV.fn (.func 25) [] [(.ptr (some (HA.cell0 S.next)))]), p17)) else none)) else none)) else none)) else none))))))))))
theorem snd {x0 : (Option HA)} {S : HS}  {p : (HV) × HS} (h : f x0 S = some p) : HCall Try.prog base W0 β0 20 [(.ptr x0)] S (fun v S1 => v = p.1 ∧ S1 = p.2) := by
  unfold f at h
  refine HCall.of_run at_.at_ body ?_
  show HRun Try.prog base W0 β0 20 none [.code c0] ⟨[(.ptr x0), .tup [], .tup [], .tup [], .tup [], .tup [], .tup [], .tup [], .tup [], .tup [], .tup [], .tup [], .tup [], .tup [], .tup [], .tup [], .tup []], []⟩ S _
  refine q_seq e0 ?_
  refine q_region e1 rfl ?_
  refine q_op (dst := some 2) rfl (fun _ ho => ok_assign ho (.const fun _ => .nilFn)) ?_
  refine hr_region_end ?_
  try dsimp only [HAct.put, List.set_cons_zero, List.set_cons_succ]
  refine q_seq e2 ?_
  refine q_seq e3 ?_
  refine q_region e4 rfl ?_
  refine q_op (dst := some 4) rfl (fun _ ho => ok_move ho (.tmp rfl)) ?_
  refine q_op (dst := some 5) rfl (fun _ ho => ok_nil_ptr ho tu25 (.tmp rfl) (.inl ⟨rfl, rfl⟩)) ?_
  refine hr_region_end ?_
  try dsimp only [HAct.put, List.set_cons_zero, List.set_cons_succ]
  rcases ifc h with ⟨hc1, h⟩ | ⟨hc1, h⟩
  · refine q_cond_t e5 (.tmp rfl) hc1 ?_
    refine q_seq e6 ?_
    refine q_region e7 rfl ?_
    refine q_op (dst := some 2) rfl (fun _ ho => ok_assign ho (.func _)) ?_
    refine hr_region_end ?_
    try dsimp only [HAct.put, List.set_cons_zero, List.set_cons_succ]
    cases h
    exact q_ret e8 at_.at_ rfl (res1 rfl rfl) ⟨rfl, rfl⟩
  · refine q_cond_f e5 (.tmp rfl) (bfalse hc1) ?_
    refine q_skipc e9 ?_
    refine q_seq e10 ?_
    refine x_start (cls := [0, 0, 0, 3, 0, 0, 0, 3, 3, 3, 2, 2]) (rk := [0, 1, 2, 3, 4, 5, 6, 7, 8, 9, 10, 11]) e11 (by kernel_rfl) ?_
    refine x_goP (f_op (dst := some 6) (ts := [0]) rfl (by intro _ _ h; cases h) (by kernel_rfl) (fun _ _ ho => ok_move ho (.tmp rfl))) rfl (by decide) (by decide) ?_
    obtain ⟨p2, hp2, h⟩ := bindo h
    refine x_goP (f_op (dst := some 7) (ts := [6]) rfl (by intro _ _ h; cases h) (by kernel_rfl) (fun _ _ ho => ok_nilCheck_p ho (.tmp rfl) hp2)) rfl (by decide) (by decide) ?_
    refine x_goP (f_op (dst := some 8) (ts := [7]) rfl (by intro _ _ h; cases h) (by kernel_rfl) (fun _ _ ho => ok_fieldAddr_s ho fi53_1 (by decide) (.tmp rfl) rfl)) rfl (by decide) (by decide) ?_
    obtain ⟨p3, hp3, h⟩ := bindo h
    refine x_late (r_op (dst := some 9) (ts := [8]) rfl (by intro _ _ h; cases h) (by kernel_rfl) (fun _ ho => ok_load_s ho sc31 (.tmp rfl) rfl (ldSl_out hp3))) rfl trivial ?_
    try dsimp only [HAct.put, List.set_cons_zero, List.set_cons_succ]
    refine x_goP (f_op (dst := some 10) (ts := [0]) rfl (by intro _ _ h; cases h) (by kernel_rfl) (fun _ _ ho => ok_move ho (.tmp rfl))) rfl (by decide) (by decide) ?_
    obtain ⟨p4, hp4, h⟩ := bindo h
    refine x_goP (f_op (dst := some 11) (ts := [10]) rfl (by intro _ _ h; cases h) (by kernel_rfl) (fun _ _ ho => ok_nilCheck_p ho (.tmp rfl) hp4)) rfl (by decide) (by decide) ?_
    refine x_goP (f_op (dst := some 12) (ts := [11]) rfl (by intro _ _ h; cases h) (by kernel_rfl) (fun _ _ ho => ok_fieldAddr_s ho fi53_2 (by decide) (.tmp rfl) rfl)) rfl (by decide) (by decide) ?_
    obtain ⟨p5, hp5, h⟩ := bindo h
    refine x_late (r_op (dst := some 13) (ts := [12]) rfl (by intro _ _ h; cases h) (by kernel_rfl) (fun _ ho => ok_load_s ho sc3 (.tmp rfl) rfl (ldI_out hp5))) rfl trivial ?_
    try dsimp only [HAct.put, List.set_cons_zero, List.set_cons_succ]
    obtain ⟨p6, hp6, h⟩ := bindo h
    refine x_late (r_op (dst := some 14) (ts := [9, 13]) rfl (by intro _ _ h; cases h) (by kernel_rfl) (fun _ ho => ok_slice (kl := .i64) (kh := .i64) (s := p3) (l := p5) (h := (Sl.len p3 : Int)) ho tu31 si5 (.tmp rfl) (.inr ⟨_, rfl, (.tmp rfl)⟩) (.inl ⟨rfl, rfl⟩) hp6)) rfl trivial ?_
    obtain ⟨p7, hp7, h⟩ := bindo h
    refine x_late (r_op (dst := some 15) (ts := [14]) rfl (by intro _ _ h; cases h) (by kernel_rfl) (fun _ ho => ok_str_of_bytes (s := p6) ho tu31 tu5 tu9 (.tmp rfl) hp7)) rfl trivial ?_
    obtain ⟨p8, hp8, h⟩ := leto h
    obtain ⟨p9, hp9, h⟩ := bindo h
    obtain ⟨hg10, h⟩ := gd h
    obtain ⟨p11, hp11, h⟩ := bindo h
    obtain ⟨hg12, h⟩ := gd h
    obtain ⟨p13, hp13, h⟩ := bindo h
    obtain ⟨hg14, h⟩ := gd h
    obtain ⟨p15, hp15, h⟩ := bindo h
    obtain ⟨hg16, h⟩ := gd h
    refine x_goE (e_op (dst := some 3) (ts := []) rfl (by intro _ _ h; cases h) (by kernel_rfl) (fun _ ho => ok_alloc_e ho zi9 zr9 (by decide) rfl hp8)) rfl ⟨.inr (l_op (dst := some 15) (ts := [14]) rfl (by intro _ _ h; cases h) (by kernel_rfl) (fun _ ho => ok_str_of_bytes (s := p6) ho tu31 tu5 tu9 (.tmp rfl) (hp9.trans (congrArg some hg10)))), .inr (l_op (dst := some 14) (ts := [9, 13]) rfl (by intro _ _ h; cases h) (by kernel_rfl) (fun _ ho => ok_slice (kl := .i64) (kh := .i64) (s := p3) (l := p5) (h := (Sl.len p3 : Int)) ho tu31 si5 (.tmp rfl) (.inr ⟨_, rfl, (.tmp rfl)⟩) (.inl ⟨rfl, rfl⟩) (hp11.trans (congrArg some hg12)))), .inr (l_op (dst := some 13) (ts := [12]) rfl (by intro _ _ h; cases h) (by kernel_rfl) (fun _ ho => ok_load_s ho sc3 (.tmp rfl) rfl (ldI_out (hp13.trans (congrArg some hg14))))), .inr (l_op (dst := some 9) (ts := [8]) rfl (by intro _ _ h; cases h) (by kernel_rfl) (fun _ ho => ok_load_s ho sc31 (.tmp rfl) rfl (ldSl_out (hp15.trans (congrArg some hg16))))), trivial⟩ ?_
    obtain ⟨p17, hp17, h⟩ := bindo h
    refine x_goE (e_op (dst := none) (ts := [3, 15]) rfl (by intro _ _ h; cases h) (by kernel_rfl) (fun _ ho => ok_store_s (v := (.str p7)) ho sz9 (.tmp rfl) rfl (.tmp rfl) rfl hp17)) rfl ⟨.inl (by kernel_rfl), .inl (by kernel_rfl), .inl (by kernel_rfl), .inl (by kernel_rfl), trivial⟩ ?_
    refine x_rest rfl ?_
    refine hr_region_end ?_
    try dsimp only [HAct.put, List.set_cons_zero, List.set_cons_succ]
    refine q_seq e12 ?_
    refine q_region e13 rfl ?_
    refine q_op (dst := some 16) rfl (fun _ ho => ok_makeFunc ho Evs.nil (.cons (.tmp rfl) Evs.nil)) ?_
    refine q_op (dst := some 2) rfl (fun _ ho => ok_assign ho (.tmp rfl)) ?_
    refine hr_region_end ?_
    try dsimp only [HAct.put, List.set_cons_zero, List.set_cons_succ]
    cases h
    exact q_ret e14 at_.at_ rfl (res1 rfl rfl) ⟨rfl, rfl⟩
end
end sendq_Queue_Lines
namespace sendq_Queue_Len
abbrev id : Nat := 11
theorem at_ : FnAt Try.prog 11 Try.f11 := ⟨Try.func11, by kernel_rfl⟩
noncomputable def c0 : Code := (Try.f11.body).getD .skip
noncomputable def c1 : Code := match c0 with | .seq x _ => x | _ => .skip
noncomputable def c2 : Code := match c0 with | .seq _ x => x | _ => .skip
noncomputable def c3 : Code := match c2 with | .seq x _ => x | _ => .skip
noncomputable def c4 : Code := match c3 with | .seq x _ => x | _ => .skip
noncomputable def c5 : Code := match c3 with | .seq _ x => x | _ => .skip
noncomputable def c6 : Code := match c5 with | .cond _ x _ => x | _ => .skip
noncomputable def c7 : Code := match c6 with | .seq x _ => x | _ => .skip
noncomputable def c8 : Code := match c6 with | .seq _ x => x | _ => .skip
noncomputable def c9 : Code := match c5 with | .cond _ _ x => x | _ => .skip
noncomputable def c10 : Code := match c2 with | .seq _ x => x | _ => .skip
noncomputable def c11 : Code := match c10 with | .seq x _ => x | _ => .skip
noncomputable def c12 : Code := match c10 with | .seq _ x => x | _ => .skip
theorem e0 : c0 = .seq c1 c2 := by kernel_rfl
noncomputable def r1 : Array Oper := match c1 with | .region _ x _ => x | _ => #[]
theorem e1 : c1 = .region 0 r1 false := by kernel_rfl
theorem e2 : c2 = .seq c3 c10 := by kernel_rfl
theorem e3 : c3 = .seq c4 c5 := by kernel_rfl
noncomputable def r4 : Array Oper := match c4 with | .region _ x _ => x | _ => #[]
theorem e4 : c4 = .region 1 r4 false := by kernel_rfl
theorem e5 : c5 = .cond (.tmp 4) c6 c9 := by kernel_rfl
theorem e6 : c6 = .seq c7 c8 := by kernel_rfl
noncomputable def r7 : Array Oper := match c7 with | .region _ x _ => x | _ => #[]
theorem e7 : c7 = .region 2 r7 false := by kernel_rfl
theorem e8 : c8 = .ret := by kernel_rfl
theorem e9 : c9 = .skip := by kernel_rfl
theorem e10 : c10 = .seq c11 c12 := by kernel_rfl
noncomputable def r11 : Array Oper := match c11 with | .region _ x _ => x | _ => #[]
theorem e11 : c11 = .region 3 r11 false := by kernel_rfl
theorem e12 : c12 = .ret := by kernel_rfl
theorem body : Try.f11.body = some c0 := by kernel_rfl
section
variable {base : Nat} {W0 : World} {β0 : Bt}
def f (x0 : (Option HA)) (S : HS) : Option ((Int) × HS) :=
  (if (Option.isNone x0) = true then
  some (0, S) else
  (Option.bind (x0) fun p2 =>
  (Option.bind (HS.ldSl S (HA.fld p2 1)) fun p3 =>
  some ((Sl.len p3 : Int), S))))
theorem snd {x0 : (Option HA)} {S : HS}  {p : (Int) × HS} (h : f x0 S = some p) : HCall Try.prog base W0 β0 11 [(.ptr x0)] S (fun v S1 => v = (.int .i64 p.1) ∧ S1 = p.2) := by
  unfold f at h
  refine HCall.of_run at_.at_ body ?_
  show HRun Try.prog base W0 β0 11 none [.code c0] ⟨[(.ptr x0), .tup [], .tup [], .tup [], .tup [], .tup [], .tup [], .tup [], .tup [], .tup []], []⟩ S _
  refine q_seq e0 ?_
  refine q_region e1 rfl ?_
  refine q_op (dst := some 2) rfl (fun _ ho => ok_assign ho (.int _ _)) ?_
  refine hr_region_end ?_
  try dsimp only [HAct.put, List.set_cons_zero, List.set_cons_succ]
  refine q_seq e2 ?_
  refine q_seq e3 ?_
  refine q_region e4 rfl ?_
  refine q_op (dst := some 3) rfl (fun _ ho => ok_move ho (.tmp rfl)) ?_
  refine q_op (dst := some 4) rfl (fun _ ho => ok_nil_ptr ho tu25 (.tmp rfl) (.inl ⟨rfl, rfl⟩)) ?_
  refine hr_region_end ?_
  try dsimp only [HAct.put, List.set_cons_zero, List.set_cons_succ]
  rcases ifc h with ⟨hc1, h⟩ | ⟨hc1, h⟩
  · refine q_cond_t e5 (.tmp rfl) hc1 ?_
    refine q_seq e6 ?_
    refine q_region e7 rfl ?_
    refine q_op (dst := some 2) rfl (fun _ ho => ok_assign ho (.int _ _)) ?_
    refine hr_region_end ?_
    try dsimp only [HAct.put, List.set_cons_zero, List.set_cons_succ]
    cases h
    exact q_ret e8 at_.at_ rfl (res1 rfl rfl) ⟨rfl, rfl⟩
  · refine q_cond_f e5 (.tmp rfl) (bfalse hc1) ?_
    refine q_skipc e9 ?_
    refine q_seq e10 ?_
    refine q_region e11 rfl ?_
    refine q_op (dst := some 5) rfl (fun _ ho => ok_move ho (.tmp rfl)) ?_
    obtain ⟨p2, hp2, h⟩ := bindo h
    refine q_op (dst := some 6) rfl (fun _ ho => ok_nilCheck_p ho (.tmp rfl) hp2) ?_
    refine q_op (dst := some 7) rfl (fun _ ho => ok_fieldAddr_s ho fi53_1 (by decide) (.tmp rfl) rfl) ?_
    obtain ⟨p3, hp3, h⟩ := bindo h
    refine q_op (dst := some 8) rfl (fun _ ho => ok_load_s ho sc31 (.tmp rfl) rfl (ldSl_out hp3)) ?_
    try dsimp only [HAct.put, List.set_cons_zero, List.set_cons_succ]
    refine q_op (dst := some 9) rfl (fun _ ho => ok_len_sl (q := Sl.a p3) (n := Sl.len p3) (z := Sl.cap p3) ho rfl tu31 (.tmp rfl)) ?_
    refine q_op (dst := some 2) rfl (fun _ ho => ok_assign ho (.tmp rfl)) ?_
    refine hr_region_end ?_
    try dsimp only [HAct.put, List.set_cons_zero, List.set_cons_succ]
    cases h
    exact q_ret e12 at_.at_ rfl (res1 rfl rfl) ⟨rfl, rfl⟩
end
end sendq_Queue_Len
namespace sendq_Queue_Sent
abbrev id : Nat := 12
theorem at_ : FnAt Try.prog 12 Try.f12 := ⟨Try.func12, by kernel_rfl⟩
noncomputable def c0 : Code := (Try.f12.body).getD .skip
noncomputable def c1 : Code := match c0 with | .seq x _ => x | _ => .skip
noncomputable def c2 : Code := match c0 with | .seq _ x => x | _ => .skip
noncomputable def c3 : Code := match c2 with | .seq x _ => x | _ => .skip
noncomputable def c4 : Code := match c3 with | .seq x _ => x | _ => .skip
noncomputable def c5 : Code := match c3 with | .seq _ x => x | _ => .skip
noncomputable def c6 : Code := match c5 with | .cond _ x _ => x | _ => .skip
noncomputable def c7 : Code := match c6 with | .seq x _ => x | _ => .skip
noncomputable def c8 : Code := match c6 with | .seq _ x => x | _ => .skip
noncomputable def c9 : Code := match c5 with | .cond _ _ x => x | _ => .skip
noncomputable def c10 : Code := match c2 with | .seq _ x => x | _ => .skip
noncomputable def c11 : Code := match c10 with | .seq x _ => x | _ => .skip
noncomputable def c12 : Code := match c10 with | .seq _ x => x | _ => .skip
theorem e0 : c0 = .seq c1 c2 := by kernel_rfl
noncomputable def r1 : Array Oper := match c1 with | .region _ x _ => x | _ => #[]
theorem e1 : c1 = .region 0 r1 false := by kernel_rfl
theorem e2 : c2 = .seq c3 c10 := by kernel_rfl
theorem e3 : c3 = .seq c4 c5 := by kernel_rfl
noncomputable def r4 : Array Oper := match c4 with | .region _ x _ => x | _ => #[]
theorem e4 : c4 = .region 1 r4 false := by kernel_rfl
theorem e5 : c5 = .cond (.tmp 4) c6 c9 := by kernel_rfl
theorem e6 : c6 = .seq c7 c8 := by kernel_rfl
noncomputable def r7 : Array Oper := match c7 with | .region _ x _ => x | _ => #[]
theorem e7 : c7 = .region 2 r7 false := by kernel_rfl
theorem e8 : c8 = .ret := by kernel_rfl
theorem e9 : c9 = .skip := by kernel_rfl
theorem e10 : c10 = .seq c11 c12 := by kernel_rfl
noncomputable def r11 : Array Oper := match c11 with | .region _ x _ => x | _ => #[]
theorem e11 : c11 = .region 3 r11 false := by kernel_rfl
theorem e12 : c12 = .ret := by kernel_rfl
theorem body : Try.f12.body = some c0 := by kernel_rfl
section
variable {base : Nat} {W0 : World} {β0 : Bt}
def f (x0 : (Option HA)) (S : HS) : Option ((Int) × HS) :=
  (if (Option.isNone x0) = true then
  some (0, S) else
  (Option.bind (x0) fun p2 =>
  (Option.bind (HS.ldI S .i64 (HA.fld p2 3)) fun p3 =>
  some (p3, S))))
theorem snd {x0 : (Option HA)} {S : HS}  {p : (Int) × HS} (h : f x0 S = some p) : HCall Try.prog base W0 β0 12 [(.ptr x0)] S (fun v S1 => v = (.int .i64 p.1) ∧ S1 = p.2) := by
  unfold f at h
  refine HCall.of_run at_.at_ body ?_
  show HRun Try.prog base W0 β0 12 none [.code c0] ⟨[(.ptr x0), .tup [], .tup [], .tup [], .tup [], .tup [], .tup [], .tup [], .tup []], []⟩ S _
  refine q_seq e0 ?_
  refine q_region e1 rfl ?_
  refine q_op (dst := some 2) rfl (fun _ ho => ok_assign ho (.int _ _)) ?_
  refine hr_region_end ?_
  try dsimp only [HAct.put, List.set_cons_zero, List.set_cons_succ]
  refine q_seq e2 ?_
  refine q_seq e3 ?_
  refine q_region e4 rfl ?_
  refine q_op (dst := some 3) rfl (fun _ ho => ok_move ho (.tmp rfl)) ?_
  refine q_op (dst := some 4) rfl (fun _ ho => ok_nil_ptr ho tu25 (.tmp rfl) (.inl ⟨rfl, rfl⟩)) ?_
  refine hr_region_end ?_
  try dsimp only [HAct.put, List.set_cons_zero, List.set_cons_succ]
  rcases ifc h with ⟨hc1, h⟩ | ⟨hc1, h⟩
  · refine q_cond_t e5 (.tmp rfl) hc1 ?_
    refine q_seq e6 ?_
    refine q_region e7 rfl ?_
    refine q_op (dst := some 2) rfl (fun _ ho => ok_assign ho (.int _ _)) ?_
    refine hr_region_end ?_
    try dsimp only [HAct.put, List.set_cons_zero, List.set_cons_succ]
    cases h
    exact q_ret e8 at_.at_ rfl (res1 rfl rfl) ⟨rfl, rfl⟩
  · refine q_cond_f e5 (.tmp rfl) (bfalse hc1) ?_
    refine q_skipc e9 ?_
    refine q_seq e10 ?_
    refine q_region e11 rfl ?_
    refine q_op (dst := some 5) rfl (fun _ ho => ok_move ho (.tmp rfl)) ?_
    obtain ⟨p2, hp2, h⟩ := bindo h
    refine q_op (dst := some 6) rfl (fun _ ho => ok_nilCheck_p ho (.tmp rfl) hp2) ?_
    refine q_op (dst := some 7) rfl (fun _ ho => ok_fieldAddr_s ho fi53_3 (by decide) (.tmp rfl) rfl) ?_
    obtain ⟨p3, hp3, h⟩ := bindo h
    refine q_op (dst := some 8) rfl (fun _ ho => ok_load_s ho sc3 (.tmp rfl) rfl (ldI_out hp3)) ?_
    try dsimp only [HAct.put, List.set_cons_zero, List.set_cons_succ]
    refine q_op (dst := some 2) rfl (fun _ ho => ok_assign ho (.tmp rfl)) ?_
    refine hr_region_end ?_
    try dsimp only [HAct.put, List.set_cons_zero, List.set_cons_succ]
    cases h
    exact q_ret e12 at_.at_ rfl (res1 rfl rfl) ⟨rfl, rfl⟩
end
end sendq_Queue_Sent
namespace rollcalllaw08_awake
abbrev id : Nat := 7
theorem at_ : FnAt Try.prog 7 Try.f7 := ⟨Try.func7, by kernel_rfl⟩
noncomputable def c0 : Code := (Try.f7.body).getD .skip
noncomputable def c1 : Code := match c0 with | .seq x _ => x | _ => .skip
noncomputable def c2 : Code := match c0 with | .seq _ x => x | _ => .skip
noncomputable def c3 : Code := match c2 with | .seq x _ => x | _ => .skip
noncomputable def c4 : Code := match c2 with | .seq _ x => x | _ => .skip
noncomputable def c5 : Code := match c4 with | .seq x _ => x | _ => .skip
noncomputable def c6 : Code := match c5 with | .seq x _ => x | _ => .skip
noncomputable def c7 : Code := match c5 with | .seq _ x => x | _ => .skip
noncomputable def c8 : Code := match c7 with | .cond _ x _ => x | _ => .skip
noncomputable def c9 : Code := match c8 with | .seq x _ => x | _ => .skip
noncomputable def c10 : Code := match c8 with | .seq _ x => x | _ => .skip
noncomputable def c11 : Code := match c7 with | .cond _ _ x => x | _ => .skip
noncomputable def c12 : Code := match c4 with | .seq _ x => x | _ => .skip
noncomputable def c13 : Code := match c12 with | .seq x _ => x | _ => .skip
noncomputable def c14 : Code := match c12 with | .seq _ x => x | _ => .skip
noncomputable def c15 : Code := match c14 with | .seq x _ => x | _ => .skip
noncomputable def c16 : Code := match c15 with | .seq x _ => x | _ => .skip
noncomputable def c17 : Code := match c15 with | .seq _ x => x | _ => .skip
noncomputable def c18 : Code := match c17 with | .cond _ x _ => x | _ => .skip
noncomputable def c19 : Code := match c18 with | .seq x _ => x | _ => .skip
noncomputable def c20 : Code := match c18 with | .seq _ x => x | _ => .skip
noncomputable def c21 : Code := match c17 with | .cond _ _ x => x | _ => .skip
noncomputable def c22 : Code := match c14 with | .seq _ x => x | _ => .skip
noncomputable def c23 : Code := match c22 with | .seq x _ => x | _ => .skip
noncomputable def c24 : Code := match c22 with | .seq _ x => x | _ => .skip
noncomputable def c25 : Code := match c24 with | .seq x _ => x | _ => .skip
noncomputable def c26 : Code := match c25 with | .seq x _ => x | _ => .skip
noncomputable def c27 : Code := match c25 with | .seq _ x => x | _ => .skip
noncomputable def c28 : Code := match c27 with | .block _ x => x | _ => .skip
noncomputable def c29 : Code := match c28 with | .rangeFunc _ _ x _ => x | _ => .skip
noncomputable def c30 : Code := match c28 with | .rangeFunc _ _ _ x => x | _ => .skip
noncomputable def c31 : Code := match c30 with | .block _ x => x | _ => .skip
noncomputable def c32 : Code := match c24 with | .seq _ x => x | _ => .skip
noncomputable def c33 : Code := match c32 with | .seq x _ => x | _ => .skip
noncomputable def c34 : Code := match c32 with | .seq _ x => x | _ => .skip
theorem e0 : c0 = .seq c1 c2 := by kernel_rfl
noncomputable def r1 : Array Oper := match c1 with | .region _ x _ => x | _ => #[]
theorem e1 : c1 = .region 0 r1 false := by kernel_rfl
theorem e2 : c2 = .seq c3 c4 := by kernel_rfl
noncomputable def r3 : Array Oper := match c3 with | .region _ x _ => x | _ => #[]
theorem e3 : c3 = .region 1 r3 false := by kernel_rfl
theorem e4 : c4 = .seq c5 c12 := by kernel_rfl
theorem e5 : c5 = .seq c6 c7 := by kernel_rfl
noncomputable def r6 : Array Oper := match c6 with | .region _ x _ => x | _ => #[]
theorem e6 : c6 = .region 2 r6 false := by kernel_rfl
theorem e7 : c7 = .cond (.tmp 26) c8 c11 := by kernel_rfl
theorem e8 : c8 = .seq c9 c10 := by kernel_rfl
noncomputable def r9 : Array Oper := match c9 with | .region _ x _ => x | _ => #[]
theorem e9 : c9 = .region 3 r9 false := by kernel_rfl
theorem e10 : c10 = .ret := by kernel_rfl
theorem e11 : c11 = .skip := by kernel_rfl
theorem e12 : c12 = .seq c13 c14 := by kernel_rfl
noncomputable def r13 : Array Oper := match c13 with | .region _ x _ => x | _ => #[]
theorem e13 : c13 = .region 4 r13 false := by kernel_rfl
theorem e14 : c14 = .seq c15 c22 := by kernel_rfl
theorem e15 : c15 = .seq c16 c17 := by kernel_rfl
noncomputable def r16 : Array Oper := match c16 with | .region _ x _ => x | _ => #[]
theorem e16 : c16 = .region 5 r16 false := by kernel_rfl
theorem e17 : c17 = .cond (.tmp 30) c18 c21 := by kernel_rfl
theorem e18 : c18 = .seq c19 c20 := by kernel_rfl
noncomputable def r19 : Array Oper := match c19 with | .region _ x _ => x | _ => #[]
theorem e19 : c19 = .region 6 r19 false := by kernel_rfl
theorem e20 : c20 = .ret := by kernel_rfl
theorem e21 : c21 = .skip := by kernel_rfl
theorem e22 : c22 = .seq c23 c24 := by kernel_rfl
noncomputable def r23 : Array Oper := match c23 with | .region _ x _ => x | _ => #[]
theorem e23 : c23 = .region 7 r23 false := by kernel_rfl
theorem e24 : c24 = .seq c25 c32 := by kernel_rfl
theorem e25 : c25 = .seq c26 c27 := by kernel_rfl
noncomputable def r26 : Array Oper := match c26 with | .region _ x _ => x | _ => #[]
theorem e26 : c26 = .region 8 r26 false := by kernel_rfl
theorem e27 : c27 = .block 0 c28 := by kernel_rfl
theorem e28 : c28 = .rangeFunc (.tmp 31) #[32] c29 c30 := by kernel_rfl
theorem e29 : c29 = .skip := by kernel_rfl
theorem e30 : c30 = .block 1 c31 := by kernel_rfl
noncomputable def r31 : Array Oper := match c31 with | .region _ x _ => x | _ => #[]
theorem e31 : c31 = .region 9 r31 false := by kernel_rfl
theorem e32 : c32 = .seq c33 c34 := by kernel_rfl
noncomputable def r33 : Array Oper := match c33 with | .region _ x _ => x | _ => #[]
theorem e33 : c33 = .region 10 r33 false := by kernel_rfl
theorem e34 : c34 = .ret := by kernel_rfl
theorem body : Try.f7.body = some c0 := by kernel_rfl
section
variable {base : Nat} {W0 : World} {β0 : Bt}
def J3 (D : Dp) (H : Hd) (k : Nat) (l : Nat) (y4 : (Option HA)) (S : HS) : Option (HV × HS) :=
  (Option.bind (HS.begin_ S l) fun p13 =>
  (Option.bind (y4) fun p14 =>
  (Option.bind (HS.ldI p13 .i64 p14) fun p15 =>
  (Option.bind (y4) fun p16 =>
  (Option.bind (HS.sets p13 p16 [(.int .i64 (w64 (p15 + 1)))]) fun p17 =>
  (HS.endr p17 l none))))))
theorem J3_snd {D : Dp} {H : Hd} {k : Nat} {l : Nat} (hD : DSound Try.prog base W0 D) (hH : HSound Try.prog base W0 β0 H)  {y4 : (Option HA)} {S : HS} {p : HV × HS} {g0 g1 g2 g3 g5 g6 g7 g8 g9 g10 g11 g12 g13 g14 g15 g16 g17 g18 g19 g20 g21 g22 g23 g24 g25 g26 g27 g28 g29 g30 g31 g32 g33 g34 g35 g36 g37 g38 g39 g40 g41 g42 g43 g44 g45 g46 : HV} (h : J3 D H k l y4 S = some p) : HRun Try.prog base W0 β0 7 (some l) [.code c29, .beginRound, .code c30] ⟨[g0, g1, g2, g3, (.ptr y4), g5, g6, g7, g8, g9, g10, g11, g12, g13, g14, g15, g16, g17, g18, g19, g20, g21, g22, g23, g24, g25, g26, g27, g28, g29, g30, g31, g32, g33, g34, g35, g36, g37, g38, g39, g40, g41, g42, g43, g44, g45, g46], []⟩ S (fun v S1 => v = p.1 ∧ S1 = p.2) := by
  unfold J3 at h
  refine q_skipc e29 ?_
  obtain ⟨p13, hp13, h⟩ := bindo h
  refine q_begin hp13 ?_
  refine q_block e30 ?_
  refine q_region e31 rfl ?_
  obtain ⟨p14, hp14, h⟩ := bindo h
  obtain ⟨p15, hp15, h⟩ := bindo h
  refine q_op (dst := some 33) rfl (fun _ ho => ok_load_s ho sc3 (.tmp rfl) hp14 (ldI_out hp15)) ?_
  refine q_op (dst := some 34) rfl (fun _ ho => ok_ibin ho (.tmp rfl) (.int _ _) rfl) ?_
  obtain ⟨p16, hp16, h⟩ := bindo h
  obtain ⟨p17, hp17, h⟩ := bindo h
  refine q_op (dst := none) rfl (fun _ ho => ok_store_s (v := (.int .i64 (w64 (p15 + 1)))) ho sz3 (.tmp rfl) hp16 (.tmp rfl) rfl hp17) ?_
  refine hr_region_end ?_
  try dsimp only [HAct.put, List.set_cons_zero, List.set_cons_succ]
  refine hr_inBlock ?_
  exact q_round_end h ⟨rfl, rfl⟩
def J5 (D : Dp) (H : Hd) (k : Nat) (y46 : Bool) (ds : List Nat) (S : HS) : Option ((Bool) × HS) :=
  (Option.bind (HS.leave S ds) fun p30 =>
  some (y46, p30))
theorem J5_snd {D : Dp} {H : Hd} {k : Nat} (hD : DSound Try.prog base W0 D) (hH : HSound Try.prog base W0 β0 H)  {y46 : Bool} {ds : List Nat} {S : HS} {p : (Bool) × HS} {g0 g1 g2 g3 g4 g5 g6 g7 g8 g9 g10 g11 g12 g13 g14 g15 g16 g17 g18 g19 g20 g21 g22 g23 g24 g25 g26 g27 g28 g29 g30 g31 g32 g33 g34 g35 g36 g37 g38 g39 g40 g41 g42 g43 g44 g45 : HV} (h : J5 D H k y46 ds S = some p) : HRun Try.prog base W0 β0 7 none [.inRegion r33 [12], .code c34] ⟨[g0, g1, g2, g3, g4, g5, g6, g7, g8, g9, g10, g11, g12, g13, g14, g15, g16, g17, g18, g19, g20, g21, g22, g23, g24, g25, g26, g27, g28, g29, g30, g31, g32, g33, g34, g35, g36, g37, g38, g39, g40, g41, g42, g43, g44, g45, (.bool y46)], ds⟩ S (fun v S1 => v = (.bool p.1) ∧ S1 = p.2) := by
  unfold J5 at h
  refine q_op (dst := some 0) rfl (fun _ ho => ok_assign ho (.tmp rfl)) ?_
  refine hr_region_end ?_
  try dsimp only [HAct.put, List.set_cons_zero, List.set_cons_succ]
  obtain ⟨p30, hp30, h⟩ := bindo h
  cases h
  exact q_ret e34 at_.at_ hp30 (res1 rfl rfl) ⟨rfl, rfl⟩
def J4 (D : Dp) (H : Hd) (k : Nat) (y1 : (Option HA)) (y41 : Bool) (ds : List Nat) (S : HS) : Option ((Bool) × HS) :=
  (if y41 = true then
  (Option.bind (sendq_Queue_Sent.f y1 S) fun p29 =>
  J5 D H k (decide (p29.1 = 4)) ds p29.2) else
  J5 D H k false ds S)
theorem J4_snd {D : Dp} {H : Hd} {k : Nat} (hD : DSound Try.prog base W0 D) (hH : HSound Try.prog base W0 β0 H)  {y1 : (Option HA)} {y41 : Bool} {ds : List Nat} {S : HS} {p : (Bool) × HS} {g0 g2 g3 g4 g5 g6 g7 g8 g9 g10 g11 g12 g13 g14 g15 g16 g17 g18 g19 g20 g21 g22 g23 g24 g25 g26 g27 g28 g29 g30 g31 g32 g33 g34 g35 g36 g37 g38 g39 g40 g42 g43 g44 g45 g46 : HV} (h : J4 D H k y1 y41 ds S = some p) : HRun Try.prog base W0 β0 7 none [.inRegion r33 [7, 8, 9, 10, 11, 12], .code c34] ⟨[g0, (.ptr y1), g2, g3, g4, g5, g6, g7, g8, g9, g10, g11, g12, g13, g14, g15, g16, g17, g18, g19, g20, g21, g22, g23, g24, g25, g26, g27, g28, g29, g30, g31, g32, g33, g34, g35, g36, g37, g38, g39, g40, (.bool y41), g42, g43, g44, g45, g46], ds⟩ S (fun v S1 => v = (.bool p.1) ∧ S1 = p.2) := by
  unfold J4 at h
  refine q_op (dst := some 42) rfl (fun _ ho => ok_move ho (.tmp rfl)) ?_
  try dsimp only [HAct.put, List.set_cons_zero, List.set_cons_succ]
  rcases ifc h with ⟨hc28, h⟩ | ⟨hc28, h⟩
  · refine q_op_g (t := 42) (dst := some 43) rfl rfl rfl hc28 (fun _ ho => ok_move ho (.tmp rfl)) ?_
    obtain ⟨p29, hp29, h⟩ := bindo h
    refine q_call_g (t := 42) (dst := some 44) rfl rfl rfl hc28 (.func _) (.cons (.tmp rfl) Evs.nil) (HInv.static sendq_Queue_Sent.at_ sendq_Queue_Sent.body (sendq_Queue_Sent.snd  hp29)) ?_
    rintro _ _ ⟨rfl, rfl⟩
    refine q_op_g (t := 42) (dst := some 45) rfl rfl rfl hc28 (fun _ ho => ok_ibin ho (.tmp rfl) (.int _ _) rfl) ?_
    refine q_op (dst := some 46) rfl (fun _ ho => ok_pick_tt ho (.tmp rfl) hc28 (.tmp rfl)) ?_
    try dsimp only [HAct.put, List.set_cons_zero, List.set_cons_succ]
    try dsimp only [HAct.put, List.set_cons_zero, List.set_cons_succ]
    exact J5_snd hD hH h
  · refine q_skip (dst := some 43) (t := 42) rfl rfl rfl (bfalse hc28) ?_
    refine q_skip (dst := some 44) (t := 42) rfl rfl rfl (bfalse hc28) ?_
    refine q_skip (dst := some 45) (t := 42) rfl rfl rfl (bfalse hc28) ?_
    refine q_op (dst := some 46) rfl (fun _ ho => ok_pick_ff ho (.tmp rfl) (bfalse hc28) (.bool _)) ?_
    try dsimp only [HAct.put, List.set_cons_zero, List.set_cons_succ]
    try dsimp only [HAct.put, List.set_cons_zero, List.set_cons_succ]
    exact J5_snd hD hH h
def J2 (D : Dp) (H : Hd) (k : Nat) (y1 : (Option HA)) (y26 : Bool) (ds : List Nat) (S : HS) : Option ((Bool) × HS) :=
  (if y26 = true then
  (Option.bind (HS.leave S ds) fun p6 =>
  some (false, p6)) else
  (Option.bind (sendq_Queue_Lines.f y1 S) fun p7 =>
  (Option.bind (HV.isNilFn p7.1) fun p8 =>
  (if (p8) = true then
  (Option.bind (HS.leave p7.2 ds) fun p10 =>
  some (false, p10)) else
  (letv (HS.new p7.2 (.cells 1 [[(.int .i64 0)]] true)) fun p11 =>
  (Option.bind (HS.sets p11 (HA.cell0 p7.2.next) [(.int .i64 0)]) fun p12 =>
  (Option.bind (D (Hd.set H (HS.next p12 + 1) fun vs T =>
  (Option.bind (HS.lp T (HS.next p12 + 1)) fun u20 =>
  (Option.bind (args1 vs) fun ar18 =>
  (Option.bind (dS ar18) fun p19 =>
  (J3 D H k (HS.next p12 + 1) (some (HA.cell0 p7.2.next)) T))))) p7.1 [.fn (.yield (HS.next p12 + 1)) [] []] (HS.new (HS.new p12 .defer) (.loop .ready none))) fun p21 =>
  (Option.bind (HS.finish p21.2 (HS.next p12 + 1)) fun p22 =>
  (Option.bind (pcode p22.1) fun n23 =>
  (if n23 = 0 then
  (Option.bind (HS.ldI p22.2 .i64 (HA.cell0 p7.2.next)) fun p25 =>
  (if p25 = 0 then
  (Option.bind (sendq_Queue_Len.f y1 p22.2) fun p27 =>
  J4 D H k y1 (decide (p27.1 = 3)) (HS.next p12 :: ds) p27.2) else
  J4 D H k y1 false (HS.next p12 :: ds) p22.2)) else
  none))))))))))
theorem J2_snd {D : Dp} {H : Hd} {k : Nat} (hD : DSound Try.prog base W0 D) (hH : HSound Try.prog base W0 β0 H)  {y1 : (Option HA)} {y26 : Bool} {ds : List Nat} {S : HS} {p : (Bool) × HS} {g0 g2 g3 g4 g5 g6 g7 g8 g9 g10 g11 g12 g13 g14 g15 g16 g17 g18 g19 g20 g21 g22 g23 g24 g25 g27 g28 g29 g30 g31 g32 g33 g34 g35 g36 g37 g38 g39 g40 g41 g42 g43 g44 g45 g46 : HV} (h : J2 D H k y1 y26 ds S = some p) : HRun Try.prog base W0 β0 7 none [.code c7, .code c12] ⟨[g0, (.ptr y1), g2, g3, g4, g5, g6, g7, g8, g9, g10, g11, g12, g13, g14, g15, g16, g17, g18, g19, g20, g21, g22, g23, g24, g25, (.bool y26), g27, g28, g29, g30, g31, g32, g33, g34, g35, g36, g37, g38, g39, g40, g41, g42, g43, g44, g45, g46], ds⟩ S (fun v S1 => v = (.bool p.1) ∧ S1 = p.2) := by
  unfold J2 at h
  rcases ifc h with ⟨hc5, h⟩ | ⟨hc5, h⟩
  · refine q_cond_t e7 (.tmp rfl) hc5 ?_
    refine q_seq e8 ?_
    refine q_region e9 rfl ?_
    refine q_op (dst := some 0) rfl (fun _ ho => ok_assign ho (.bool _)) ?_
    refine hr_region_end ?_
    try dsimp only [HAct.put, List.set_cons_zero, List.set_cons_succ]
    obtain ⟨p6, hp6, h⟩ := bindo h
    cases h
    exact q_ret e10 at_.at_ hp6 (res1 rfl rfl) ⟨rfl, rfl⟩
  · refine q_cond_f e7 (.tmp rfl) (bfalse hc5) ?_
    refine q_skipc e11 ?_
    refine q_seq e12 ?_
    refine q_region e13 rfl ?_
    refine q_op (dst := some 27) rfl (fun _ ho => ok_move ho (.tmp rfl)) ?_
    obtain ⟨p7, hp7, h⟩ := bindo h
    refine q_call (dst := some 28) rfl (.func _) (.cons (.tmp rfl) Evs.nil) (HInv.static sendq_Queue_Lines.at_ sendq_Queue_Lines.body (sendq_Queue_Lines.snd  hp7)) ?_
    rintro _ _ ⟨rfl, rfl⟩
    refine q_op (dst := some 3) rfl (fun _ ho => ok_assign ho (.tmp rfl)) ?_
    refine hr_region_end ?_
    try dsimp only [HAct.put, List.set_cons_zero, List.set_cons_succ]
    refine q_seq e14 ?_
    refine q_seq e15 ?_
    refine q_region e16 rfl ?_
    refine q_op (dst := some 29) rfl (fun _ ho => ok_move ho (.tmp rfl)) ?_
    obtain ⟨p8, hp8, h⟩ := bindo h
    refine q_op (dst := some 30) rfl (fun _ ho => ok_nil_fn ho tu50 (.tmp rfl) hp8 (.inl ⟨rfl, rfl⟩)) ?_
    refine hr_region_end ?_
    try dsimp only [HAct.put, List.set_cons_zero, List.set_cons_succ]
    rcases ifc h with ⟨hc9, h⟩ | ⟨hc9, h⟩
    · refine q_cond_t e17 (.tmp rfl) hc9 ?_
      refine q_seq e18 ?_
      refine q_region e19 rfl ?_
      refine q_op (dst := some 0) rfl (fun _ ho => ok_assign ho (.bool _)) ?_
      refine hr_region_end ?_
      try dsimp only [HAct.put, List.set_cons_zero, List.set_cons_succ]
      obtain ⟨p10, hp10, h⟩ := bindo h
      cases h
      exact q_ret e20 at_.at_ hp10 (res1 rfl rfl) ⟨rfl, rfl⟩
    · refine q_cond_f e17 (.tmp rfl) (bfalse hc9) ?_
      refine q_skipc e21 ?_
      refine q_seq e22 ?_
      refine q_region e23 rfl ?_
      obtain ⟨p11, hp11, h⟩ := leto h
      refine q_op (dst := some 4) rfl (fun _ ho => ok_alloc_e ho zi3 zr3 (by decide) rfl hp11) ?_
      obtain ⟨p12, hp12, h⟩ := bindo h
      refine q_op (dst := none) rfl (fun _ ho => ok_store_s (v := (.int .i64 0)) ho sz3 (.tmp rfl) rfl (.int _ _) rfl hp12) ?_
      refine hr_region_end ?_
      try dsimp only [HAct.put, List.set_cons_zero, List.set_cons_succ]
      refine q_seq e24 ?_
      refine q_seq e25 ?_
      refine q_region e26 rfl ?_
      refine q_op (dst := some 31) rfl (fun _ ho => ok_move ho (.tmp rfl)) ?_
      refine hr_region_end ?_
      try dsimp only [HAct.put, List.set_cons_zero, List.set_cons_succ]
      refine q_block e27 ?_
      obtain ⟨p21, hp21, h⟩ := bindo h
      obtain ⟨p22, hp22, h⟩ := bindo h
      obtain ⟨n23, hn23, h⟩ := bindo h
      refine q_range (D := D) (H := H) e28 (.tmp rfl) hD hH hp21 hp22 ?_ ?_
      · intro β1 hle hLA vs T u T' hr
        obtain ⟨u20, hu20, hr⟩ := bindo hr
        obtain ⟨ar18, har18, hr⟩ := bindo hr
        obtain ⟨p19, hp19, hr⟩ := bindo hr
        rw [args1_out har18]
        refine q_yield2 hLA hu20 rfl rfl ?_
        rw [dS_out hp19]
        simp only [HAct.params, List.set_cons_zero, List.set_cons_succ]
        exact J3_snd hD (hH.up hle) hr
      · rcases ifc h with ⟨hc24, h⟩ | ⟨hc24, h⟩
        · rw [pcode0 hn23 hc24]
          simp only [jumped_none, jumped_some]
          refine hr_inBlock ?_
          refine q_seq e32 ?_
          refine q_region e33 rfl ?_
          obtain ⟨p25, hp25, h⟩ := bindo h
          refine q_op (dst := some 35) rfl (fun _ ho => ok_load_s ho sc3 (.tmp rfl) rfl (ldI_out hp25)) ?_
          refine q_op (dst := some 36) rfl (fun _ ho => ok_ibin ho (.tmp rfl) (.int _ _) rfl) ?_
          refine q_op (dst := some 37) rfl (fun _ ho => ok_move ho (.tmp rfl)) ?_
          rcases ifc h with ⟨hc26, h⟩ | ⟨hc26, h⟩
          · refine q_op_g (t := 37) (dst := some 38) rfl rfl rfl (decide_eq_true hc26) (fun _ ho => ok_move ho (.tmp rfl)) ?_
            try dsimp only [HAct.put, List.set_cons_zero, List.set_cons_succ]
            obtain ⟨p27, hp27, h⟩ := bindo h
            refine q_call_g (t := 37) (dst := some 39) rfl rfl rfl (decide_eq_true hc26) (.func _) (.cons (.tmp rfl) Evs.nil) (HInv.static sendq_Queue_Len.at_ sendq_Queue_Len.body (sendq_Queue_Len.snd  hp27)) ?_
            rintro _ _ ⟨rfl, rfl⟩
            refine q_op_g (t := 37) (dst := some 40) rfl rfl rfl (decide_eq_true hc26) (fun _ ho => ok_ibin ho (.tmp rfl) (.int _ _) rfl) ?_
            refine q_op (dst := some 41) rfl (fun _ ho => ok_pick_tt ho (.tmp rfl) (decide_eq_true hc26) (.tmp rfl)) ?_
            try dsimp only [HAct.put, List.set_cons_zero, List.set_cons_succ]
            exact J4_snd hD hH h
          · refine q_skip (dst := some 38) (t := 37) rfl rfl rfl (decide_eq_false hc26) ?_
            try dsimp only [HAct.put, List.set_cons_zero, List.set_cons_succ]
            refine q_skip (dst := some 39) (t := 37) rfl rfl rfl (decide_eq_false hc26) ?_
            refine q_skip (dst := some 40) (t := 37) rfl rfl rfl (decide_eq_false hc26) ?_
            refine q_op (dst := some 41) rfl (fun _ ho => ok_pick_ff ho (.tmp rfl) (decide_eq_false hc26) (.bool _)) ?_
            try dsimp only [HAct.put, List.set_cons_zero, List.set_cons_succ]
            exact J4_snd hD hH h
        · cases h
def J1 (D : Dp) (H : Hd) (k : Nat) (y1 : (Option HA)) (y20 : Bool) (ds : List Nat) (S : HS) : Option ((Bool) × HS) :=
  (if y20 = true then
  J2 D H k y1 true ds S else
  (Option.bind (sendq_Queue_Drain.f k y1 4 S) fun p31 =>
  (Option.bind (HS.text p31.2 p31.1) fun p32 =>
  J2 D H k y1 (!decide (p32 = ([97, 13, 10, 98] : List UInt8))) ds p31.2)))
theorem J1_snd {D : Dp} {H : Hd} {k : Nat} (hD : DSound Try.prog base W0 D) (hH : HSound Try.prog base W0 β0 H)  {y1 : (Option HA)} {y20 : Bool} {ds : List Nat} {S : HS} {p : (Bool) × HS} {g0 g2 g3 g4 g5 g6 g7 g8 g9 g10 g11 g12 g13 g14 g15 g16 g17 g18 g19 g21 g22 g23 g24 g25 g26 g27 g28 g29 g30 g31 g32 g33 g34 g35 g36 g37 g38 g39 g40 g41 g42 g43 g44 g45 g46 : HV} (h : J1 D H k y1 y20 ds S = some p) : HRun Try.prog base W0 β0 7 none [.inRegion r6 [12, 13, 14, 15, 16, 17], .code c7, .code c12] ⟨[g0, (.ptr y1), g2, g3, g4, g5, g6, g7, g8, g9, g10, g11, g12, g13, g14, g15, g16, g17, g18, g19, (.bool y20), g21, g22, g23, g24, g25, g26, g27, g28, g29, g30, g31, g32, g33, g34, g35, g36, g37, g38, g39, g40, g41, g42, g43, g44, g45, g46], ds⟩ S (fun v S1 => v = (.bool p.1) ∧ S1 = p.2) := by
  unfold J1 at h
  refine q_op (dst := some 21) rfl (fun _ ho => ok_move ho (.tmp rfl)) ?_
  rcases ifc h with ⟨hc4, h⟩ | ⟨hc4, h⟩
  · refine q_skip (dst := some 22) (t := 21) rfl rfl rfl hc4 ?_
    refine q_skip (dst := some 23) (t := 21) rfl rfl rfl hc4 ?_
    refine q_skip (dst := some 24) (t := 21) rfl rfl rfl hc4 ?_
    try dsimp only [HAct.put, List.set_cons_zero, List.set_cons_succ]
    refine q_skip (dst := some 25) (t := 21) rfl rfl rfl hc4 ?_
    refine q_op (dst := some 26) rfl (fun _ ho => ok_pick_tt ho (.tmp rfl) hc4 (.bool _)) ?_
    refine hr_region_end ?_
    try dsimp only [HAct.put, List.set_cons_zero, List.set_cons_succ]
    try dsimp only [HAct.put, List.set_cons_zero, List.set_cons_succ]
    exact J2_snd hD hH h
  · refine q_op_g (t := 21) (dst := some 22) rfl rfl rfl (bfalse hc4) (fun _ ho => ok_move ho (.tmp rfl)) ?_
    obtain ⟨p31, hp31, h⟩ := bindo h
    refine q_call_g (t := 21) (dst := some 23) rfl rfl rfl (bfalse hc4) (.func _) (.cons (.tmp rfl) (.cons (.int _ _) Evs.nil)) (HInv.static sendq_Queue_Drain.at_ sendq_Queue_Drain.body (sendq_Queue_Drain.snd  hp31)) ?_
    rintro _ _ ⟨rfl, rfl⟩
    obtain ⟨p32, hp32, h⟩ := bindo h
    refine q_op_g (t := 21) (dst := some 24) rfl rfl rfl (bfalse hc4) (fun _ ho => ok_str_of_bytes (s := p31.1) ho tu31 tu5 tu9 (.tmp rfl) hp32) ?_
    try dsimp only [HAct.put, List.set_cons_zero, List.set_cons_succ]
    refine q_op_g (t := 21) (dst := some 25) rfl rfl rfl (bfalse hc4) (fun _ ho => ok_sbin ho (.tmp rfl) (.str _) rfl) ?_
    refine q_op (dst := some 26) rfl (fun _ ho => ok_pick_ff ho (.tmp rfl) (bfalse hc4) (.tmp rfl)) ?_
    refine hr_region_end ?_
    try dsimp only [HAct.put, List.set_cons_zero, List.set_cons_succ]
    try dsimp only [HAct.put, List.set_cons_zero, List.set_cons_succ]
    exact J2_snd hD hH h
def J0 (D : Dp) (H : Hd) (k : Nat) (y1 : (Option HA)) (y15 : Bool) (ds : List Nat) (S : HS) : Option ((Bool) × HS) :=
  (if y15 = true then
  J1 D H k y1 true ds S else
  (Option.bind (sendq_Queue_Push.f k y1 ([98, 99] : List UInt8) S) fun p33 =>
  J1 D H k y1 (!p33.1) ds p33.2))
theorem J0_snd {D : Dp} {H : Hd} {k : Nat} (hD : DSound Try.prog base W0 D) (hH : HSound Try.prog base W0 β0 H)  {y1 : (Option HA)} {y15 : Bool} {ds : List Nat} {S : HS} {p : (Bool) × HS} {g0 g2 g3 g4 g5 g6 g7 g8 g9 g10 g11 g12 g13 g14 g16 g17 g18 g19 g20 g21 g22 g23 g24 g25 g26 g27 g28 g29 g30 g31 g32 g33 g34 g35 g36 g37 g38 g39 g40 g41 g42 g43 g44 g45 g46 : HV} (h : J0 D H k y1 y15 ds S = some p) : HRun Try.prog base W0 β0 7 none [.inRegion r6 [7, 8, 9, 10, 11, 12, 13, 14, 15, 16, 17], .code c7, .code c12] ⟨[g0, (.ptr y1), g2, g3, g4, g5, g6, g7, g8, g9, g10, g11, g12, g13, g14, (.bool y15), g16, g17, g18, g19, g20, g21, g22, g23, g24, g25, g26, g27, g28, g29, g30, g31, g32, g33, g34, g35, g36, g37, g38, g39, g40, g41, g42, g43, g44, g45, g46], ds⟩ S (fun v S1 => v = (.bool p.1) ∧ S1 = p.2) := by
  unfold J0 at h
  refine q_op (dst := some 16) rfl (fun _ ho => ok_move ho (.tmp rfl)) ?_
  try dsimp only [HAct.put, List.set_cons_zero, List.set_cons_succ]
  rcases ifc h with ⟨hc3, h⟩ | ⟨hc3, h⟩
  · refine q_skip (dst := some 17) (t := 16) rfl rfl rfl hc3 ?_
    refine q_skip (dst := some 18) (t := 16) rfl rfl rfl hc3 ?_
    refine q_skip (dst := some 19) (t := 16) rfl rfl rfl hc3 ?_
    refine q_op (dst := some 20) rfl (fun _ ho => ok_pick_tt ho (.tmp rfl) hc3 (.bool _)) ?_
    try dsimp only [HAct.put, List.set_cons_zero, List.set_cons_succ]
    try dsimp only [HAct.put, List.set_cons_zero, List.set_cons_succ]
    exact J1_snd hD hH h
  · refine q_op_g (t := 16) (dst := some 17) rfl rfl rfl (bfalse hc3) (fun _ ho => ok_move ho (.tmp rfl)) ?_
    obtain ⟨p33, hp33, h⟩ := bindo h
    refine q_call_g (t := 16) (dst := some 18) rfl rfl rfl (bfalse hc3) (.func _) (.cons (.tmp rfl) (.cons (.str _) Evs.nil)) (HInv.static sendq_Queue_Push.at_ sendq_Queue_Push.body (sendq_Queue_Push.snd  hp33)) ?_
    rintro _ _ ⟨rfl, rfl⟩
    refine q_op_g (t := 16) (dst := some 19) rfl rfl rfl (bfalse hc3) (fun _ ho => ok_not ho (.tmp rfl)) ?_
    refine q_op (dst := some 20) rfl (fun _ ho => ok_pick_ff ho (.tmp rfl) (bfalse hc3) (.tmp rfl)) ?_
    try dsimp only [HAct.put, List.set_cons_zero, List.set_cons_succ]
    try dsimp only [HAct.put, List.set_cons_zero, List.set_cons_succ]
    exact J1_snd hD hH h
def f (D : Dp) (H : Hd) (k : Nat) (S : HS) : Option ((Bool) × HS) :=
  (Option.bind (sendq_New.f 512 S) fun p1 =>
  (if (!decide (p1.1.2 = 0)) = true then
  J0 D H k p1.1.1 true [] p1.2 else
  (Option.bind (sendq_Queue_Push.f k p1.1.1 ([97] : List UInt8) p1.2) fun p34 =>
  J0 D H k p1.1.1 (!p34.1) [] p34.2)))
theorem snd {D : Dp} {H : Hd} {k : Nat} {S : HS} (hD : DSound Try.prog base W0 D) (hH : HSound Try.prog base W0 β0 H)  {p : (Bool) × HS} (h : f D H k S = some p) : HCall Try.prog base W0 β0 7 [] S (fun v S1 => v = (.bool p.1) ∧ S1 = p.2) := by
  unfold f at h
  refine HCall.of_run at_.at_ body ?_
  show HRun Try.prog base W0 β0 7 none [.code c0] ⟨[.tup [], .tup [], .tup [], .tup [], .tup [], .tup [], .tup [], .tup [], .tup [], .tup [], .tup [], .tup [], .tup [], .tup [], .tup [], .tup [], .tup [], .tup [], .tup [], .tup [], .tup [], .tup [], .tup [], .tup [], .tup [], .tup [], .tup [], .tup [], .tup [], .tup [], .tup [], .tup [], .tup [], .tup [], .tup [], .tup [], .tup [], .tup [], .tup [], .tup [], .tup [], .tup [], .tup [], .tup [], .tup [], .tup [], .tup []], []⟩ S _
  refine q_seq e0 ?_
  refine q_region e1 rfl ?_
  refine q_op (dst := some 0) rfl (fun _ ho => ok_assign ho (.bool _)) ?_
  refine hr_region_end ?_
  try dsimp only [HAct.put, List.set_cons_zero, List.set_cons_succ]
  refine q_seq e2 ?_
  refine q_region e3 rfl ?_
  obtain ⟨p1, hp1, h⟩ := bindo h
  refine q_call (dst := some 6) rfl (.func _) (.cons (.int _ _) Evs.nil) (HInv.static sendq_New.at_ sendq_New.body (sendq_New.snd  hp1)) ?_
  rintro _ _ ⟨rfl, rfl⟩
  refine q_op (dst := some 5) rfl (fun _ ho => ok_move ho (.tmp rfl)) ?_
  refine q_op (dst := some 7) rfl (fun _ ho => ok_extract ho (.tmp rfl) rfl) ?_
  refine q_op (dst := some 8) rfl (fun _ ho => ok_extract ho (.tmp rfl) rfl) ?_
  try dsimp only [HAct.put, List.set_cons_zero, List.set_cons_succ]
  refine q_op (dst := some 1) rfl (fun _ ho => ok_assign ho (.tmp rfl)) ?_
  refine q_op (dst := some 2) rfl (fun _ ho => ok_assign ho (.tmp rfl)) ?_
  refine hr_region_end ?_
  try dsimp only [HAct.put, List.set_cons_zero, List.set_cons_succ]
  refine q_seq e4 ?_
  refine q_seq e5 ?_
  refine q_region e6 rfl ?_
  refine q_op (dst := some 9) rfl (fun _ ho => ok_move ho (.tmp rfl)) ?_
  refine q_op (dst := some 10) rfl (fun _ ho => ok_ibin ho (.tmp rfl) (.int _ _) rfl) ?_
  refine q_op (dst := some 11) rfl (fun _ ho => ok_move ho (.tmp rfl)) ?_
  rcases ifc h with ⟨hc2, h⟩ | ⟨hc2, h⟩
  · refine q_skip (dst := some 12) (t := 11) rfl rfl rfl hc2 ?_
    try dsimp only [HAct.put, List.set_cons_zero, List.set_cons_succ]
    refine q_skip (dst := some 13) (t := 11) rfl rfl rfl hc2 ?_
    refine q_skip (dst := some 14) (t := 11) rfl rfl rfl hc2 ?_
    refine q_op (dst := some 15) rfl (fun _ ho => ok_pick_tt ho (.tmp rfl) hc2 (.bool _)) ?_
    try dsimp only [HAct.put, List.set_cons_zero, List.set_cons_succ]
    exact J0_snd hD hH h
  · refine q_op_g (t := 11) (dst := some 12) rfl rfl rfl (bfalse hc2) (fun _ ho => ok_move ho (.tmp rfl)) ?_
    try dsimp only [HAct.put, List.set_cons_zero, List.set_cons_succ]
    obtain ⟨p34, hp34, h⟩ := bindo h
    refine q_call_g (t := 11) (dst := some 13) rfl rfl rfl (bfalse hc2) (.func _) (.cons (.tmp rfl) (.cons (.str _) Evs.nil)) (HInv.static sendq_Queue_Push.at_ sendq_Queue_Push.body (sendq_Queue_Push.snd  hp34)) ?_
    rintro _ _ ⟨rfl, rfl⟩
    refine q_op_g (t := 11) (dst := some 14) rfl rfl rfl (bfalse hc2) (fun _ ho => ok_not ho (.tmp rfl)) ?_
    refine q_op (dst := some 15) rfl (fun _ ho => ok_pick_ff ho (.tmp rfl) (bfalse hc2) (.tmp rfl)) ?_
    try dsimp only [HAct.put, List.set_cons_zero, List.set_cons_succ]
    exact J0_snd hD hH h
end
end rollcalllaw08_awake
namespace rollcalllaw08_SendqWhole
abbrev id : Nat := 3
theorem at_ : FnAt Try.prog 3 Try.f3 := ⟨Try.func3, by kernel_rfl⟩
noncomputable def c0 : Code := (Try.f3.body).getD .skip
noncomputable def c1 : Code := match c0 with | .seq x _ => x | _ => .skip
noncomputable def c2 : Code := match c0 with | .seq _ x => x | _ => .skip
noncomputable def c3 : Code := match c2 with | .seq x _ => x | _ => .skip
noncomputable def c4 : Code := match c3 with | .seq x _ => x | _ => .skip
noncomputable def c5 : Code := match c3 with | .seq _ x => x | _ => .skip
noncomputable def c6 : Code := match c5 with | .cond _ x _ => x | _ => .skip
noncomputable def c7 : Code := match c6 with | .seq x _ => x | _ => .skip
noncomputable def c8 : Code := match c6 with | .seq _ x => x | _ => .skip
noncomputable def c9 : Code := match c5 with | .cond _ _ x => x | _ => .skip
noncomputable def c10 : Code := match c2 with | .seq _ x => x | _ => .skip
noncomputable def c11 : Code := match c10 with | .seq x _ => x | _ => .skip
noncomputable def c12 : Code := match c10 with | .seq _ x => x | _ => .skip
noncomputable def c13 : Code := match c12 with | .seq x _ => x | _ => .skip
noncomputable def c14 : Code := match c13 with | .seq x _ => x | _ => .skip
noncomputable def c15 : Code := match c13 with | .seq _ x => x | _ => .skip
noncomputable def c16 : Code := match c15 with | .cond _ x _ => x | _ => .skip
noncomputable def c17 : Code := match c16 with | .seq x _ => x | _ => .skip
noncomputable def c18 : Code := match c16 with | .seq _ x => x | _ => .skip
noncomputable def c19 : Code := match c15 with | .cond _ _ x => x | _ => .skip
noncomputable def c20 : Code := match c12 with | .seq _ x => x | _ => .skip
noncomputable def c21 : Code := match c20 with | .seq x _ => x | _ => .skip
noncomputable def c22 : Code := match c20 with | .seq _ x => x | _ => .skip
noncomputable def c23 : Code := match c22 with | .seq x _ => x | _ => .skip
noncomputable def c24 : Code := match c23 with | .seq x _ => x | _ => .skip
noncomputable def c25 : Code := match c23 with | .seq _ x => x | _ => .skip
noncomputable def c26 : Code := match c25 with | .block _ x => x | _ => .skip
noncomputable def c27 : Code := match c26 with | .loop x => x | _ => .skip
noncomputable def c28 : Code := match c27 with | .seq x _ => x | _ => .skip
noncomputable def c29 : Code := match c28 with | .seq x _ => x | _ => .skip
noncomputable def c30 : Code := match c28 with | .seq _ x => x | _ => .skip
noncomputable def c31 : Code := match c30 with | .cond _ x _ => x | _ => .skip
noncomputable def c32 : Code := match c30 with | .cond _ _ x => x | _ => .skip
noncomputable def c33 : Code := match c27 with | .seq _ x => x | _ => .skip
noncomputable def c34 : Code := match c33 with | .seq x _ => x | _ => .skip
noncomputable def c35 : Code := match c34 with | .block _ x => x | _ => .skip
noncomputable def c36 : Code := match c35 with | .seq x _ => x | _ => .skip
noncomputable def c37 : Code := match c36 with | .seq x _ => x | _ => .skip
noncomputable def c38 : Code := match c36 with | .seq _ x => x | _ => .skip
noncomputable def c39 : Code := match c38 with | .cond _ x _ => x | _ => .skip
noncomputable def c40 : Code := match c39 with | .seq x _ => x | _ => .skip
noncomputable def c41 : Code := match c39 with | .seq _ x => x | _ => .skip
noncomputable def c42 : Code := match c38 with | .cond _ _ x => x | _ => .skip
noncomputable def c43 : Code := match c35 with | .seq _ x => x | _ => .skip
noncomputable def c44 : Code := match c43 with | .seq x _ => x | _ => .skip
noncomputable def c45 : Code := match c44 with | .seq x _ => x | _ => .skip
noncomputable def c46 : Code := match c44 with | .seq _ x => x | _ => .skip
noncomputable def c47 : Code := match c46 with | .cond _ x _ => x | _ => .skip
noncomputable def c48 : Code := match c46 with | .cond _ _ x => x | _ => .skip
noncomputable def c49 : Code := match c48 with | .seq x _ => x | _ => .skip
noncomputable def c50 : Code := match c48 with | .seq _ x => x | _ => .skip
noncomputable def c51 : Code := match c50 with | .cond _ x _ => x | _ => .skip
noncomputable def c52 : Code := match c50 with | .cond _ _ x => x | _ => .skip
noncomputable def c53 : Code := match c43 with | .seq _ x => x | _ => .skip
noncomputable def c54 : Code := match c53 with | .seq x _ => x | _ => .skip
noncomputable def c55 : Code := match c53 with | .seq _ x => x | _ => .skip
noncomputable def c56 : Code := match c55 with | .cond _ x _ => x | _ => .skip
noncomputable def c57 : Code := match c56 with | .seq x _ => x | _ => .skip
noncomputable def c58 : Code := match c56 with | .seq _ x => x | _ => .skip
noncomputable def c59 : Code := match c55 with | .cond _ _ x => x | _ => .skip
noncomputable def c60 : Code := match c33 with | .seq _ x => x | _ => .skip
noncomputable def c61 : Code := match c22 with | .seq _ x => x | _ => .skip
noncomputable def c62 : Code := match c61 with | .seq x _ => x | _ => .skip
noncomputable def c63 : Code := match c61 with | .seq _ x => x | _ => .skip
noncomputable def c64 : Code := match c63 with | .seq x _ => x | _ => .skip
noncomputable def c65 : Code := match c63 with | .seq _ x => x | _ => .skip
noncomputable def c66 : Code := match c65 with | .seq x _ => x | _ => .skip
noncomputable def c67 : Code := match c65 with | .seq _ x => x | _ => .skip
theorem e0 : c0 = .seq c1 c2 := by kernel_rfl
noncomputable def r1 : Array Oper := match c1 with | .region _ x _ => x | _ => #[]
theorem e1 : c1 = .region 0 r1 false := by kernel_rfl
theorem e2 : c2 = .seq c3 c10 := by kernel_rfl
theorem e3 : c3 = .seq c4 c5 := by kernel_rfl
noncomputable def r4 : Array Oper := match c4 with | .region _ x _ => x | _ => #[]
theorem e4 : c4 = .region 1 r4 false := by kernel_rfl
theorem e5 : c5 = .cond (.tmp 13) c6 c9 := by kernel_rfl
theorem e6 : c6 = .seq c7 c8 := by kernel_rfl
noncomputable def r7 : Array Oper := match c7 with | .region _ x _ => x | _ => #[]
theorem e7 : c7 = .region 2 r7 false := by kernel_rfl
theorem e8 : c8 = .ret := by kernel_rfl
theorem e9 : c9 = .skip := by kernel_rfl
theorem e10 : c10 = .seq c11 c12 := by kernel_rfl
noncomputable def r11 : Array Oper := match c11 with | .region _ x _ => x | _ => #[]
theorem e11 : c11 = .region 3 r11 false := by kernel_rfl
theorem e12 : c12 = .seq c13 c20 := by kernel_rfl
theorem e13 : c13 = .seq c14 c15 := by kernel_rfl
noncomputable def r14 : Array Oper := match c14 with | .region _ x _ => x | _ => #[]
theorem e14 : c14 = .region 4 r14 false := by kernel_rfl
theorem e15 : c15 = .cond (.tmp 26) c16 c19 := by kernel_rfl
theorem e16 : c16 = .seq c17 c18 := by kernel_rfl
noncomputable def r17 : Array Oper := match c17 with | .region _ x _ => x | _ => #[]
theorem e17 : c17 = .region 5 r17 false := by kernel_rfl
theorem e18 : c18 = .ret := by kernel_rfl
theorem e19 : c19 = .skip := by kernel_rfl
theorem e20 : c20 = .seq c21 c22 := by kernel_rfl
noncomputable def r21 : Array Oper := match c21 with | .region _ x _ => x | _ => #[]
theorem e21 : c21 = .region 6 r21 false := by kernel_rfl
theorem e22 : c22 = .seq c23 c61 := by kernel_rfl
theorem e23 : c23 = .seq c24 c25 := by kernel_rfl
noncomputable def r24 : Array Oper := match c24 with | .region _ x _ => x | _ => #[]
theorem e24 : c24 = .region 7 r24 false := by kernel_rfl
theorem e25 : c25 = .block 0 c26 := by kernel_rfl
theorem e26 : c26 = .loop c27 := by kernel_rfl
theorem e27 : c27 = .seq c28 c33 := by kernel_rfl
theorem e28 : c28 = .seq c29 c30 := by kernel_rfl
noncomputable def r29 : Array Oper := match c29 with | .region _ x _ => x | _ => #[]
theorem e29 : c29 = .region 8 r29 false := by kernel_rfl
theorem e30 : c30 = .cond (.tmp 48) c31 c32 := by kernel_rfl
theorem e31 : c31 = .skip := by kernel_rfl
theorem e32 : c32 = .exit 0 := by kernel_rfl
theorem e33 : c33 = .seq c34 c60 := by kernel_rfl
theorem e34 : c34 = .block 1 c35 := by kernel_rfl
theorem e35 : c35 = .seq c36 c43 := by kernel_rfl
theorem e36 : c36 = .seq c37 c38 := by kernel_rfl
noncomputable def r37 : Array Oper := match c37 with | .region _ x _ => x | _ => #[]
theorem e37 : c37 = .region 10 r37 false := by kernel_rfl
theorem e38 : c38 = .cond (.tmp 57) c39 c42 := by kernel_rfl
theorem e39 : c39 = .seq c40 c41 := by kernel_rfl
noncomputable def r40 : Array Oper := match c40 with | .region _ x _ => x | _ => #[]
theorem e40 : c40 = .region 11 r40 false := by kernel_rfl
theorem e41 : c41 = .ret := by kernel_rfl
theorem e42 : c42 = .skip := by kernel_rfl
theorem e43 : c43 = .seq c44 c53 := by kernel_rfl
theorem e44 : c44 = .seq c45 c46 := by kernel_rfl
noncomputable def r45 : Array Oper := match c45 with | .region _ x _ => x | _ => #[]
theorem e45 : c45 = .region 12 r45 false := by kernel_rfl
theorem e46 : c46 = .cond (.tmp 63) c47 c48 := by kernel_rfl
noncomputable def r47 : Array Oper := match c47 with | .region _ x _ => x | _ => #[]
theorem e47 : c47 = .region 13 r47 false := by kernel_rfl
theorem e48 : c48 = .seq c49 c50 := by kernel_rfl
noncomputable def r49 : Array Oper := match c49 with | .region _ x _ => x | _ => #[]
theorem e49 : c49 = .region 14 r49 false := by kernel_rfl
theorem e50 : c50 = .cond (.tmp 80) c51 c52 := by kernel_rfl
noncomputable def r51 : Array Oper := match c51 with | .region _ x _ => x | _ => #[]
theorem e51 : c51 = .region 15 r51 false := by kernel_rfl
theorem e52 : c52 = .skip := by kernel_rfl
theorem e53 : c53 = .seq c54 c55 := by kernel_rfl
noncomputable def r54 : Array Oper := match c54 with | .region _ x _ => x | _ => #[]
theorem e54 : c54 = .region 16 r54 false := by kernel_rfl
theorem e55 : c55 = .cond (.tmp 93) c56 c59 := by kernel_rfl
theorem e56 : c56 = .seq c57 c58 := by kernel_rfl
noncomputable def r57 : Array Oper := match c57 with | .region _ x _ => x | _ => #[]
theorem e57 : c57 = .region 17 r57 false := by kernel_rfl
theorem e58 : c58 = .ret := by kernel_rfl
theorem e59 : c59 = .skip := by kernel_rfl
noncomputable def r60 : Array Oper := match c60 with | .region _ x _ => x | _ => #[]
theorem e60 : c60 = .region 9 r60 false := by kernel_rfl
theorem e61 : c61 = .seq c62 c63 := by kernel_rfl
noncomputable def r62 : Array Oper := match c62 with | .region _ x _ => x | _ => #[]
theorem e62 : c62 = .region 18 r62 false := by kernel_rfl
theorem e63 : c63 = .seq c64 c65 := by kernel_rfl
noncomputable def r64 : Array Oper := match c64 with | .region _ x _ => x | _ => #[]
theorem e64 : c64 = .region 19 r64 false := by kernel_rfl
theorem e65 : c65 = .seq c66 c67 := by kernel_rfl
noncomputable def r66 : Array Oper := match c66 with | .region _ x _ => x | _ => #[]
theorem e66 : c66 = .region 20 r66 false := by kernel_rfl
theorem e67 : c67 = .ret := by kernel_rfl
theorem body : Try.f3.body = some c0 := by kernel_rfl
section
variable {base : Nat} {W0 : World} {β0 : Bt}
def J3 (D : Dp) (H : Hd) (k : Nat) (y44 : Bool) (S : HS) : Option ((Bool) × HS) :=
  some (y44, S)
theorem J3_snd {D : Dp} {H : Hd} {k : Nat} (hD : DSound Try.prog base W0 D) (hH : HSound Try.prog base W0 β0 H)  {y44 : Bool} {S : HS} {p : (Bool) × HS} {g0 g1 g2 g3 g4 g5 g6 g7 g8 g9 g10 g11 g12 g13 g14 g15 g16 g17 g18 g19 g20 g21 g22 g23 g24 g25 g26 g27 g28 g29 g30 g31 g32 g33 g34 g35 g36 g37 g38 g39 g40 g41 g42 g43 g45 g46 g47 g48 g49 g50 g51 g52 g53 g54 g55 g56 g57 g58 g59 g60 g61 g62 g63 g64 g65 g66 g67 g68 g69 g70 g71 g72 g73 g74 g75 g76 g77 g78 g79 g80 g81 g82 g83 g84 g85 g86 g87 g88 g89 g90 g91 g92 g93 g94 g95 g96 g97 g98 g99 g100 g101 g102 g103 g104 g105 g106 g107 g108 g109 g110 g111 g112 g113 g114 g115 g116 g117 g118 g119 g120 g121 : HV} (h : J3 D H k y44 S = some p) : HRun Try.prog base W0 β0 3 none [.inRegion r17 [18], .code c18, .code c20] ⟨[g0, g1, g2, g3, g4, g5, g6, g7, g8, g9, g10, g11, g12, g13, g14, g15, g16, g17, g18, g19, g20, g21, g22, g23, g24, g25, g26, g27, g28, g29, g30, g31, g32, g33, g34, g35, g36, g37, g38, g39, g40, g41, g42, g43, (.bool y44), g45, g46, g47, g48, g49, g50, g51, g52, g53, g54, g55, g56, g57, g58, g59, g60, g61, g62, g63, g64, g65, g66, g67, g68, g69, g70, g71, g72, g73, g74, g75, g76, g77, g78, g79, g80, g81, g82, g83, g84, g85, g86, g87, g88, g89, g90, g91, g92, g93, g94, g95, g96, g97, g98, g99, g100, g101, g102, g103, g104, g105, g106, g107, g108, g109, g110, g111, g112, g113, g114, g115, g116, g117, g118, g119, g120, g121], []⟩ S (fun v S1 => v = (.bool p.1) ∧ S1 = p.2) := by
  unfold J3 at h
  refine q_op (dst := some 4) rfl (fun _ ho => ok_assign ho (.tmp rfl)) ?_
  refine hr_region_end ?_
  try dsimp only [HAct.put, List.set_cons_zero, List.set_cons_succ]
  cases h
  exact q_ret e18 at_.at_ rfl (res1 rfl rfl) ⟨rfl, rfl⟩
def J4 (D : Dp) (H : Hd) (k : Nat) (y37 : Bool) (y43 : Bool) (S : HS) : Option ((Bool) × HS) :=
  (if y37 = true then
  J3 D H k true S else
  J3 D H k y43 S)
theorem J4_snd {D : Dp} {H : Hd} {k : Nat} (hD : DSound Try.prog base W0 D) (hH : HSound Try.prog base W0 β0 H)  {y37 : Bool} {y43 : Bool} {S : HS} {p : (Bool) × HS} {g0 g1 g2 g3 g4 g5 g6 g7 g8 g9 g10 g11 g12 g13 g14 g15 g16 g17 g18 g19 g20 g21 g22 g23 g24 g25 g26 g27 g28 g29 g30 g31 g32 g33 g34 g35 g36 g38 g39 g40 g41 g42 g44 g45 g46 g47 g48 g49 g50 g51 g52 g53 g54 g55 g56 g57 g58 g59 g60 g61 g62 g63 g64 g65 g66 g67 g68 g69 g70 g71 g72 g73 g74 g75 g76 g77 g78 g79 g80 g81 g82 g83 g84 g85 g86 g87 g88 g89 g90 g91 g92 g93 g94 g95 g96 g97 g98 g99 g100 g101 g102 g103 g104 g105 g106 g107 g108 g109 g110 g111 g112 g113 g114 g115 g116 g117 g118 g119 g120 g121 : HV} (h : J4 D H k y37 y43 S = some p) : HRun Try.prog base W0 β0 3 none [.inRegion r17 [17, 18], .code c18, .code c20] ⟨[g0, g1, g2, g3, g4, g5, g6, g7, g8, g9, g10, g11, g12, g13, g14, g15, g16, g17, g18, g19, g20, g21, g22, g23, g24, g25, g26, g27, g28, g29, g30, g31, g32, g33, g34, g35, g36, (.bool y37), g38, g39, g40, g41, g42, (.bool y43), g44, g45, g46, g47, g48, g49, g50, g51, g52, g53, g54, g55, g56, g57, g58, g59, g60, g61, g62, g63, g64, g65, g66, g67, g68, g69, g70, g71, g72, g73, g74, g75, g76, g77, g78, g79, g80, g81, g82, g83, g84, g85, g86, g87, g88, g89, g90, g91, g92, g93, g94, g95, g96, g97, g98, g99, g100, g101, g102, g103, g104, g105, g106, g107, g108, g109, g110, g111, g112, g113, g114, g115, g116, g117, g118, g119, g120, g121], []⟩ S (fun v S1 => v = (.bool p.1) ∧ S1 = p.2) := by
  unfold J4 at h
  rcases ifc h with ⟨hc11, h⟩ | ⟨hc11, h⟩
  · refine q_op (dst := some 44) rfl (fun _ ho => ok_pick_tt ho (.tmp rfl) hc11 (.bool _)) ?_
    try dsimp only [HAct.put, List.set_cons_zero, List.set_cons_succ]
    exact J3_snd hD hH h
  · refine q_op (dst := some 44) rfl (fun _ ho => ok_pick_ff ho (.tmp rfl) (bfalse hc11) (.tmp rfl)) ?_
    try dsimp only [HAct.put, List.set_cons_zero, List.set_cons_succ]
    exact J3_snd hD hH h
def J2 (D : Dp) (H : Hd) (k : Nat) (y5 : (Option HA)) (y6 : Int) (y36 : Bool) (S : HS) : Option ((Bool) × HS) :=
  (if y36 = true then
  J3 D H k true S else
  (if y6 = 0 then
  J4 D H k y36 (!Option.isNone y5) S else
  J4 D H k y36 false S))
theorem J2_snd {D : Dp} {H : Hd} {k : Nat} (hD : DSound Try.prog base W0 D) (hH : HSound Try.prog base W0 β0 H)  {y5 : (Option HA)} {y6 : Int} {y36 : Bool} {S : HS} {p : (Bool) × HS} {g0 g1 g2 g3 g4 g7 g8 g9 g10 g11 g12 g13 g14 g15 g16 g17 g18 g19 g20 g21 g22 g23 g24 g25 g26 g27 g28 g29 g30 g31 g32 g33 g34 g35 g37 g38 g39 g40 g41 g42 g43 g44 g45 g46 g47 g48 g49 g50 g51 g52 g53 g54 g55 g56 g57 g58 g59 g60 g61 g62 g63 g64 g65 g66 g67 g68 g69 g70 g71 g72 g73 g74 g75 g76 g77 g78 g79 g80 g81 g82 g83 g84 g85 g86 g87 g88 g89 g90 g91 g92 g93 g94 g95 g96 g97 g98 g99 g100 g101 g102 g103 g104 g105 g106 g107 g108 g109 g110 g111 g112 g113 g114 g115 g116 g117 g118 g119 g120 g121 : HV} (h : J2 D H k y5 y6 y36 S = some p) : HRun Try.prog base W0 β0 3 none [.inRegion r17 [10, 11, 12, 13, 14, 15, 16, 17, 18], .code c18, .code c20] ⟨[g0, g1, g2, g3, g4, (.ptr y5), (.int .i64 y6), g7, g8, g9, g10, g11, g12, g13, g14, g15, g16, g17, g18, g19, g20, g21, g22, g23, g24, g25, g26, g27, g28, g29, g30, g31, g32, g33, g34, g35, (.bool y36), g37, g38, g39, g40, g41, g42, g43, g44, g45, g46, g47, g48, g49, g50, g51, g52, g53, g54, g55, g56, g57, g58, g59, g60, g61, g62, g63, g64, g65, g66, g67, g68, g69, g70, g71, g72, g73, g74, g75, g76, g77, g78, g79, g80, g81, g82, g83, g84, g85, g86, g87, g88, g89, g90, g91, g92, g93, g94, g95, g96, g97, g98, g99, g100, g101, g102, g103, g104, g105, g106, g107, g108, g109, g110, g111, g112, g113, g114, g115, g116, g117, g118, g119, g120, g121], []⟩ S (fun v S1 => v = (.bool p.1) ∧ S1 = p.2) := by
  unfold J2 at h
  refine q_op (dst := some 37) rfl (fun _ ho => ok_move ho (.tmp rfl)) ?_
  rcases ifc h with ⟨hc9, h⟩ | ⟨hc9, h⟩
  · refine q_skip (dst := some 38) (t := 37) rfl rfl rfl hc9 ?_
    try dsimp only [HAct.put, List.set_cons_zero, List.set_cons_succ]
    refine q_skip (dst := some 39) (t := 37) rfl rfl rfl hc9 ?_
    refine q_skip (dst := some 40) (t := 37) rfl rfl rfl hc9 ?_
    refine q_skip_u (dst := some 41) (t := 40) rfl rfl rfl ?_
    refine q_skip_u (dst := some 42) (t := 40) rfl rfl rfl ?_
    try dsimp only [HAct.put, List.set_cons_zero, List.set_cons_succ]
    refine q_skip (dst := some 43) (t := 37) rfl rfl rfl hc9 ?_
    refine q_op (dst := some 44) rfl (fun _ ho => ok_pick_tt ho (.tmp rfl) hc9 (.bool _)) ?_
    try dsimp only [HAct.put, List.set_cons_zero, List.set_cons_succ]
    exact J3_snd hD hH h
  · refine q_op_g (t := 37) (dst := some 38) rfl rfl rfl (bfalse hc9) (fun _ ho => ok_move ho (.tmp rfl)) ?_
    try dsimp only [HAct.put, List.set_cons_zero, List.set_cons_succ]
    refine q_op_g (t := 37) (dst := some 39) rfl rfl rfl (bfalse hc9) (fun _ ho => ok_ibin ho (.tmp rfl) (.int _ _) rfl) ?_
    refine q_op_g (t := 37) (dst := some 40) rfl rfl rfl (bfalse hc9) (fun _ ho => ok_move ho (.tmp rfl)) ?_
    rcases ifc h with ⟨hc10, h⟩ | ⟨hc10, h⟩
    · refine q_op_g (t := 40) (dst := some 41) rfl rfl rfl (decide_eq_true hc10) (fun _ ho => ok_move ho (.tmp rfl)) ?_
      refine q_op_g (t := 40) (dst := some 42) rfl rfl rfl (decide_eq_true hc10) (fun _ ho => ok_nil_ptr ho tu25 (.tmp rfl) (.inr ⟨rfl, rfl⟩)) ?_
      try dsimp only [HAct.put, List.set_cons_zero, List.set_cons_succ]
      refine q_op_g (t := 37) (dst := some 43) rfl rfl rfl (bfalse hc9) (fun _ ho => ok_pick_tt ho (.tmp rfl) (decide_eq_true hc10) (.tmp rfl)) ?_
      try dsimp only [HAct.put, List.set_cons_zero, List.set_cons_succ]
      exact J4_snd hD hH h
    · refine q_skip (dst := some 41) (t := 40) rfl rfl rfl (decide_eq_false hc10) ?_
      refine q_skip (dst := some 42) (t := 40) rfl rfl rfl (decide_eq_false hc10) ?_
      try dsimp only [HAct.put, List.set_cons_zero, List.set_cons_succ]
      refine q_op_g (t := 37) (dst := some 43) rfl rfl rfl (bfalse hc9) (fun _ ho => ok_pick_ff ho (.tmp rfl) (decide_eq_false hc10) (.bool _)) ?_
      try dsimp only [HAct.put, List.set_cons_zero, List.set_cons_succ]
      exact J4_snd hD hH h
def J1 (D : Dp) (H : Hd) (k : Nat) (y5 : (Option HA)) (y6 : Int) (y29 : Bool) (y35 : Bool) (S : HS) : Option ((Bool) × HS) :=
  (if y29 = true then
  J2 D H k y5 y6 y35 S else
  J2 D H k y5 y6 false S)
theorem J1_snd {D : Dp} {H : Hd} {k : Nat} (hD : DSound Try.prog base W0 D) (hH : HSound Try.prog base W0 β0 H)  {y5 : (Option HA)} {y6 : Int} {y29 : Bool} {y35 : Bool} {S : HS} {p : (Bool) × HS} {g0 g1 g2 g3 g4 g7 g8 g9 g10 g11 g12 g13 g14 g15 g16 g17 g18 g19 g20 g21 g22 g23 g24 g25 g26 g27 g28 g30 g31 g32 g33 g34 g36 g37 g38 g39 g40 g41 g42 g43 g44 g45 g46 g47 g48 g49 g50 g51 g52 g53 g54 g55 g56 g57 g58 g59 g60 g61 g62 g63 g64 g65 g66 g67 g68 g69 g70 g71 g72 g73 g74 g75 g76 g77 g78 g79 g80 g81 g82 g83 g84 g85 g86 g87 g88 g89 g90 g91 g92 g93 g94 g95 g96 g97 g98 g99 g100 g101 g102 g103 g104 g105 g106 g107 g108 g109 g110 g111 g112 g113 g114 g115 g116 g117 g118 g119 g120 g121 : HV} (h : J1 D H k y5 y6 y29 y35 S = some p) : HRun Try.prog base W0 β0 3 none [.inRegion r17 [9, 10, 11, 12, 13, 14, 15, 16, 17, 18], .code c18, .code c20] ⟨[g0, g1, g2, g3, g4, (.ptr y5), (.int .i64 y6), g7, g8, g9, g10, g11, g12, g13, g14, g15, g16, g17, g18, g19, g20, g21, g22, g23, g24, g25, g26, g27, g28, (.bool y29), g30, g31, g32, g33, g34, (.bool y35), g36, g37, g38, g39, g40, g41, g42, g43, g44, g45, g46, g47, g48, g49, g50, g51, g52, g53, g54, g55, g56, g57, g58, g59, g60, g61, g62, g63, g64, g65, g66, g67, g68, g69, g70, g71, g72, g73, g74, g75, g76, g77, g78, g79, g80, g81, g82, g83, g84, g85, g86, g87, g88, g89, g90, g91, g92, g93, g94, g95, g96, g97, g98, g99, g100, g101, g102, g103, g104, g105, g106, g107, g108, g109, g110, g111, g112, g113, g114, g115, g116, g117, g118, g119, g120, g121], []⟩ S (fun v S1 => v = (.bool p.1) ∧ S1 = p.2) := by
  unfold J1 at h
  rcases ifc h with ⟨hc8, h⟩ | ⟨hc8, h⟩
  · refine q_op (dst := some 36) rfl (fun _ ho => ok_pick_tt ho (.tmp rfl) hc8 (.tmp rfl)) ?_
    try dsimp only [HAct.put, List.set_cons_zero, List.set_cons_succ]
    exact J2_snd hD hH h
  · refine q_op (dst := some 36) rfl (fun _ ho => ok_pick_ff ho (.tmp rfl) (bfalse hc8) (.bool _)) ?_
    try dsimp only [HAct.put, List.set_cons_zero, List.set_cons_succ]
    exact J2_snd hD hH h
def J6 (D : Dp) (H : Hd) (k : Nat) (rec0 : Int → Sl → (Option HA) → (List UInt8) → (List UInt8) → Int → HS → Option ((Bool) × HS)) (y0 : Int) (y1 : Sl) (y5 : (Option HA)) (y7 : (List UInt8)) (y8 : (List UInt8)) (y9 : Int) (S : HS) : Option ((Bool) × HS) :=
  (Option.bind (sendq_Queue_Len.f y5 S) fun p24 =>
  (if p24.1 > (w64 y0) then
  some (false, p24.2) else
  rec0 y0 y1 y5 y7 y8 (w64 (y9 + 1)) p24.2))
theorem J6_snd {D : Dp} {H : Hd} {k : Nat} {rec0 : Int → Sl → (Option HA) → (List UInt8) → (List UInt8) → Int → HS → Option ((Bool) × HS)} (hD : DSound Try.prog base W0 D) (hH : HSound Try.prog base W0 β0 H) (hrec0 : ∀ ⦃y0 : Int⦄ ⦃y1 : Sl⦄ ⦃y5 : (Option HA)⦄ ⦃y7 : (List UInt8)⦄ ⦃y8 : (List UInt8)⦄ ⦃y9 : Int⦄ ⦃S : HS⦄ ⦃p : (Bool) × HS⦄ ⦃g2 g3 g4 g6 g10 g11 g12 g13 g14 g15 g16 g17 g18 g19 g20 g21 g22 g23 g24 g25 g26 g27 g28 g29 g30 g31 g32 g33 g34 g35 g36 g37 g38 g39 g40 g41 g42 g43 g44 g45 g46 g47 g48 g49 g50 g51 g52 g53 g54 g55 g56 g57 g58 g59 g60 g61 g62 g63 g64 g65 g66 g67 g68 g69 g70 g71 g72 g73 g74 g75 g76 g77 g78 g79 g80 g81 g82 g83 g84 g85 g86 g87 g88 g89 g90 g91 g92 g93 g94 g95 g96 g97 g98 g99 g100 g101 g102 g103 g104 g105 g106 g107 g108 g109 g110 g111 g112 g113 g114 g115 g116 g117 g118 g119 g120 g121 : HV⦄, rec0 y0 y1 y5 y7 y8 y9 S = some p → HRun Try.prog base W0 β0 3 none [.inLoop c27, .inBlock 0, .code c61] ⟨[(.int .u16 y0), (Sl.hv y1), g2, g3, g4, (.ptr y5), g6, (.str y7), (.str y8), (.int .i64 y9), g10, g11, g12, g13, g14, g15, g16, g17, g18, g19, g20, g21, g22, g23, g24, g25, g26, g27, g28, g29, g30, g31, g32, g33, g34, g35, g36, g37, g38, g39, g40, g41, g42, g43, g44, g45, g46, g47, g48, g49, g50, g51, g52, g53, g54, g55, g56, g57, g58, g59, g60, g61, g62, g63, g64, g65, g66, g67, g68, g69, g70, g71, g72, g73, g74, g75, g76, g77, g78, g79, g80, g81, g82, g83, g84, g85, g86, g87, g88, g89, g90, g91, g92, g93, g94, g95, g96, g97, g98, g99, g100, g101, g102, g103, g104, g105, g106, g107, g108, g109, g110, g111, g112, g113, g114, g115, g116, g117, g118, g119, g120, g121], []⟩ S (fun v S1 => v = (.bool p.1) ∧ S1 = p.2)) {y0 : Int} {y1 : Sl} {y5 : (Option HA)} {y7 : (List UInt8)} {y8 : (List UInt8)} {y9 : Int} {S : HS} {p : (Bool) × HS} {g2 g3 g4 g6 g10 g11 g12 g13 g14 g15 g16 g17 g18 g19 g20 g21 g22 g23 g24 g25 g26 g27 g28 g29 g30 g31 g32 g33 g34 g35 g36 g37 g38 g39 g40 g41 g42 g43 g44 g45 g46 g47 g48 g49 g50 g51 g52 g53 g54 g55 g56 g57 g58 g59 g60 g61 g62 g63 g64 g65 g66 g67 g68 g69 g70 g71 g72 g73 g74 g75 g76 g77 g78 g79 g80 g81 g82 g83 g84 g85 g86 g87 g88 g89 g90 g91 g92 g93 g94 g95 g96 g97 g98 g99 g100 g101 g102 g103 g104 g105 g106 g107 g108 g109 g110 g111 g112 g113 g114 g115 g116 g117 g118 g119 g120 g121 : HV} (h : J6 D H k rec0 y0 y1 y5 y7 y8 y9 S = some p) : HRun Try.prog base W0 β0 3 none [.code c53, .inBlock 1, .code c60, .inLoop c27, .inBlock 0, .code c61] ⟨[(.int .u16 y0), (Sl.hv y1), g2, g3, g4, (.ptr y5), g6, (.str y7), (.str y8), (.int .i64 y9), g10, g11, g12, g13, g14, g15, g16, g17, g18, g19, g20, g21, g22, g23, g24, g25, g26, g27, g28, g29, g30, g31, g32, g33, g34, g35, g36, g37, g38, g39, g40, g41, g42, g43, g44, g45, g46, g47, g48, g49, g50, g51, g52, g53, g54, g55, g56, g57, g58, g59, g60, g61, g62, g63, g64, g65, g66, g67, g68, g69, g70, g71, g72, g73, g74, g75, g76, g77, g78, g79, g80, g81, g82, g83, g84, g85, g86, g87, g88, g89, g90, g91, g92, g93, g94, g95, g96, g97, g98, g99, g100, g101, g102, g103, g104, g105, g106, g107, g108, g109, g110, g111, g112, g113, g114, g115, g116, g117, g118, g119, g120, g121], []⟩ S (fun v S1 => v = (.bool p.1) ∧ S1 = p.2) := by
  unfold J6 at h
  refine q_seq e53 ?_
  refine q_region e54 rfl ?_
  refine q_op (dst := some 89) rfl (fun _ ho => ok_move ho (.tmp rfl)) ?_
  obtain ⟨p24, hp24, h⟩ := bindo h
  refine q_call (dst := some 90) rfl (.func _) (.cons (.tmp rfl) Evs.nil) (HInv.static sendq_Queue_Len.at_ sendq_Queue_Len.body (sendq_Queue_Len.snd  hp24)) ?_
  rintro _ _ ⟨rfl, rfl⟩
  refine q_op (dst := some 91) rfl (fun _ ho => ok_move ho (.tmp rfl)) ?_
  refine q_op (dst := some 92) rfl (fun _ ho => ok_conv_int ho tu22 tu3 (.tmp rfl)) ?_
  try dsimp only [HAct.put, List.set_cons_zero, List.set_cons_succ]
  refine q_op (dst := some 93) rfl (fun _ ho => ok_ibin ho (.tmp rfl) (.tmp rfl) rfl) ?_
  refine hr_region_end ?_
  try dsimp only [HAct.put, List.set_cons_zero, List.set_cons_succ]
  rcases ifc h with ⟨hc25, h⟩ | ⟨hc25, h⟩
  · refine q_cond_t e55 (.tmp rfl) (decide_eq_true hc25) ?_
    refine q_seq e56 ?_
    refine q_region e57 rfl ?_
    refine q_op (dst := some 4) rfl (fun _ ho => ok_assign ho (.bool _)) ?_
    refine hr_region_end ?_
    try dsimp only [HAct.put, List.set_cons_zero, List.set_cons_succ]
    cases h
    exact q_ret e58 at_.at_ rfl (res1 rfl rfl) ⟨rfl, rfl⟩
  · refine q_cond_f e55 (.tmp rfl) (decide_eq_false hc25) ?_
    refine q_skipc e59 ?_
    refine hr_inBlock ?_
    refine q_region e60 rfl ?_
    refine q_op (dst := some 49) rfl (fun _ ho => ok_move ho (.tmp rfl)) ?_
    refine q_op (dst := some 50) rfl (fun _ ho => ok_ibin ho (.tmp rfl) (.int _ _) rfl) ?_
    refine q_op (dst := some 9) rfl (fun _ ho => ok_assign ho (.tmp rfl)) ?_
    refine hr_region_end ?_
    try dsimp only [HAct.put, List.set_cons_zero, List.set_cons_succ]
    try dsimp only [HAct.put, List.set_cons_zero, List.set_cons_succ]
    exact hrec0 h
def J9 (D : Dp) (H : Hd) (k : Nat) (y121 : Bool) (S : HS) : Option ((Bool) × HS) :=
  some (y121, S)
theorem J9_snd {D : Dp} {H : Hd} {k : Nat} (hD : DSound Try.prog base W0 D) (hH : HSound Try.prog base W0 β0 H)  {y121 : Bool} {S : HS} {p : (Bool) × HS} {g0 g1 g2 g3 g4 g5 g6 g7 g8 g9 g10 g11 g12 g13 g14 g15 g16 g17 g18 g19 g20 g21 g22 g23 g24 g25 g26 g27 g28 g29 g30 g31 g32 g33 g34 g35 g36 g37 g38 g39 g40 g41 g42 g43 g44 g45 g46 g47 g48 g49 g50 g51 g52 g53 g54 g55 g56 g57 g58 g59 g60 g61 g62 g63 g64 g65 g66 g67 g68 g69 g70 g71 g72 g73 g74 g75 g76 g77 g78 g79 g80 g81 g82 g83 g84 g85 g86 g87 g88 g89 g90 g91 g92 g93 g94 g95 g96 g97 g98 g99 g100 g101 g102 g103 g104 g105 g106 g107 g108 g109 g110 g111 g112 g113 g114 g115 g116 g117 g118 g119 g120 : HV} (h : J9 D H k y121 S = some p) : HRun Try.prog base W0 β0 3 none [.inRegion r66 [22], .code c67] ⟨[g0, g1, g2, g3, g4, g5, g6, g7, g8, g9, g10, g11, g12, g13, g14, g15, g16, g17, g18, g19, g20, g21, g22, g23, g24, g25, g26, g27, g28, g29, g30, g31, g32, g33, g34, g35, g36, g37, g38, g39, g40, g41, g42, g43, g44, g45, g46, g47, g48, g49, g50, g51, g52, g53, g54, g55, g56, g57, g58, g59, g60, g61, g62, g63, g64, g65, g66, g67, g68, g69, g70, g71, g72, g73, g74, g75, g76, g77, g78, g79, g80, g81, g82, g83, g84, g85, g86, g87, g88, g89, g90, g91, g92, g93, g94, g95, g96, g97, g98, g99, g100, g101, g102, g103, g104, g105, g106, g107, g108, g109, g110, g111, g112, g113, g114, g115, g116, g117, g118, g119, g120, (.bool y121)], []⟩ S (fun v S1 => v = (.bool p.1) ∧ S1 = p.2) := by
  unfold J9 at h
  refine q_op (dst := some 4) rfl (fun _ ho => ok_assign ho (.tmp rfl)) ?_
  refine hr_region_end ?_
  try dsimp only [HAct.put, List.set_cons_zero, List.set_cons_succ]
  cases h
  exact q_ret e67 at_.at_ rfl (res1 rfl rfl) ⟨rfl, rfl⟩
def J8 (D : Dp) (H : Hd) (k : Nat) (y5 : (Option HA)) (y115 : Bool) (S : HS) : Option ((Bool) × HS) :=
  (if y115 = true then
  (Option.bind (sendq_Queue_Drain.f k y5 1 S) fun p42 =>
  J9 D H k (decide ((Sl.len p42.1 : Int) = 0)) p42.2) else
  J9 D H k false S)
theorem J8_snd {D : Dp} {H : Hd} {k : Nat} (hD : DSound Try.prog base W0 D) (hH : HSound Try.prog base W0 β0 H)  {y5 : (Option HA)} {y115 : Bool} {S : HS} {p : (Bool) × HS} {g0 g1 g2 g3 g4 g6 g7 g8 g9 g10 g11 g12 g13 g14 g15 g16 g17 g18 g19 g20 g21 g22 g23 g24 g25 g26 g27 g28 g29 g30 g31 g32 g33 g34 g35 g36 g37 g38 g39 g40 g41 g42 g43 g44 g45 g46 g47 g48 g49 g50 g51 g52 g53 g54 g55 g56 g57 g58 g59 g60 g61 g62 g63 g64 g65 g66 g67 g68 g69 g70 g71 g72 g73 g74 g75 g76 g77 g78 g79 g80 g81 g82 g83 g84 g85 g86 g87 g88 g89 g90 g91 g92 g93 g94 g95 g96 g97 g98 g99 g100 g101 g102 g103 g104 g105 g106 g107 g108 g109 g110 g111 g112 g113 g114 g116 g117 g118 g119 g120 g121 : HV} (h : J8 D H k y5 y115 S = some p) : HRun Try.prog base W0 β0 3 none [.inRegion r66 [16, 17, 18, 19, 20, 21, 22], .code c67] ⟨[g0, g1, g2, g3, g4, (.ptr y5), g6, g7, g8, g9, g10, g11, g12, g13, g14, g15, g16, g17, g18, g19, g20, g21, g22, g23, g24, g25, g26, g27, g28, g29, g30, g31, g32, g33, g34, g35, g36, g37, g38, g39, g40, g41, g42, g43, g44, g45, g46, g47, g48, g49, g50, g51, g52, g53, g54, g55, g56, g57, g58, g59, g60, g61, g62, g63, g64, g65, g66, g67, g68, g69, g70, g71, g72, g73, g74, g75, g76, g77, g78, g79, g80, g81, g82, g83, g84, g85, g86, g87, g88, g89, g90, g91, g92, g93, g94, g95, g96, g97, g98, g99, g100, g101, g102, g103, g104, g105, g106, g107, g108, g109, g110, g111, g112, g113, g114, (.bool y115), g116, g117, g118, g119, g120, g121], []⟩ S (fun v S1 => v = (.bool p.1) ∧ S1 = p.2) := by
  unfold J8 at h
  refine q_op (dst := some 116) rfl (fun _ ho => ok_move ho (.tmp rfl)) ?_
  rcases ifc h with ⟨hc41, h⟩ | ⟨hc41, h⟩
  · refine q_op_g (t := 116) (dst := some 117) rfl rfl rfl hc41 (fun _ ho => ok_move ho (.tmp rfl)) ?_
    obtain ⟨p42, hp42, h⟩ := bindo h
    refine q_call_g (t := 116) (dst := some 118) rfl rfl rfl hc41 (.func _) (.cons (.tmp rfl) (.cons (.int _ _) Evs.nil)) (HInv.static sendq_Queue_Drain.at_ sendq_Queue_Drain.body (sendq_Queue_Drain.snd  hp42)) ?_
    rintro _ _ ⟨rfl, rfl⟩
    refine q_op_g (t := 116) (dst := some 119) rfl rfl rfl hc41 (fun _ ho => ok_len_sl (q := Sl.a p42.1) (n := Sl.len p42.1) (z := Sl.cap p42.1) ho rfl tu31 (.tmp rfl)) ?_
    try dsimp only [HAct.put, List.set_cons_zero, List.set_cons_succ]
    refine q_op_g (t := 116) (dst := some 120) rfl rfl rfl hc41 (fun _ ho => ok_ibin ho (.tmp rfl) (.int _ _) rfl) ?_
    refine q_op (dst := some 121) rfl (fun _ ho => ok_pick_tt ho (.tmp rfl) hc41 (.tmp rfl)) ?_
    try dsimp only [HAct.put, List.set_cons_zero, List.set_cons_succ]
    exact J9_snd hD hH h
  · refine q_skip (dst := some 117) (t := 116) rfl rfl rfl (bfalse hc41) ?_
    refine q_skip (dst := some 118) (t := 116) rfl rfl rfl (bfalse hc41) ?_
    refine q_skip (dst := some 119) (t := 116) rfl rfl rfl (bfalse hc41) ?_
    try dsimp only [HAct.put, List.set_cons_zero, List.set_cons_succ]
    refine q_skip (dst := some 120) (t := 116) rfl rfl rfl (bfalse hc41) ?_
    refine q_op (dst := some 121) rfl (fun _ ho => ok_pick_ff ho (.tmp rfl) (bfalse hc41) (.bool _)) ?_
    try dsimp only [HAct.put, List.set_cons_zero, List.set_cons_succ]
    exact J9_snd hD hH h
def J7 (D : Dp) (H : Hd) (k : Nat) (y5 : (Option HA)) (y110 : Bool) (S : HS) : Option ((Bool) × HS) :=
  (if y110 = true then
  (Option.bind (sendq_Queue_Len.f y5 S) fun p40 =>
  J8 D H k y5 (decide (p40.1 = 0)) p40.2) else
  J8 D H k y5 false S)
theorem J7_snd {D : Dp} {H : Hd} {k : Nat} (hD : DSound Try.prog base W0 D) (hH : HSound Try.prog base W0 β0 H)  {y5 : (Option HA)} {y110 : Bool} {S : HS} {p : (Bool) × HS} {g0 g1 g2 g3 g4 g6 g7 g8 g9 g10 g11 g12 g13 g14 g15 g16 g17 g18 g19 g20 g21 g22 g23 g24 g25 g26 g27 g28 g29 g30 g31 g32 g33 g34 g35 g36 g37 g38 g39 g40 g41 g42 g43 g44 g45 g46 g47 g48 g49 g50 g51 g52 g53 g54 g55 g56 g57 g58 g59 g60 g61 g62 g63 g64 g65 g66 g67 g68 g69 g70 g71 g72 g73 g74 g75 g76 g77 g78 g79 g80 g81 g82 g83 g84 g85 g86 g87 g88 g89 g90 g91 g92 g93 g94 g95 g96 g97 g98 g99 g100 g101 g102 g103 g104 g105 g106 g107 g108 g109 g111 g112 g113 g114 g115 g116 g117 g118 g119 g120 g121 : HV} (h : J7 D H k y5 y110 S = some p) : HRun Try.prog base W0 β0 3 none [.inRegion r66 [11, 12, 13, 14, 15, 16, 17, 18, 19, 20, 21, 22], .code c67] ⟨[g0, g1, g2, g3, g4, (.ptr y5), g6, g7, g8, g9, g10, g11, g12, g13, g14, g15, g16, g17, g18, g19, g20, g21, g22, g23, g24, g25, g26, g27, g28, g29, g30, g31, g32, g33, g34, g35, g36, g37, g38, g39, g40, g41, g42, g43, g44, g45, g46, g47, g48, g49, g50, g51, g52, g53, g54, g55, g56, g57, g58, g59, g60, g61, g62, g63, g64, g65, g66, g67, g68, g69, g70, g71, g72, g73, g74, g75, g76, g77, g78, g79, g80, g81, g82, g83, g84, g85, g86, g87, g88, g89, g90, g91, g92, g93, g94, g95, g96, g97, g98, g99, g100, g101, g102, g103, g104, g105, g106, g107, g108, g109, (.bool y110), g111, g112, g113, g114, g115, g116, g117, g118, g119, g120, g121], []⟩ S (fun v S1 => v = (.bool p.1) ∧ S1 = p.2) := by
  unfold J7 at h
  refine q_op (dst := some 111) rfl (fun _ ho => ok_move ho (.tmp rfl)) ?_
  try dsimp only [HAct.put, List.set_cons_zero, List.set_cons_succ]
  rcases ifc h with ⟨hc39, h⟩ | ⟨hc39, h⟩
  · refine q_op_g (t := 111) (dst := some 112) rfl rfl rfl hc39 (fun _ ho => ok_move ho (.tmp rfl)) ?_
    obtain ⟨p40, hp40, h⟩ := bindo h
    refine q_call_g (t := 111) (dst := some 113) rfl rfl rfl hc39 (.func _) (.cons (.tmp rfl) Evs.nil) (HInv.static sendq_Queue_Len.at_ sendq_Queue_Len.body (sendq_Queue_Len.snd  hp40)) ?_
    rintro _ _ ⟨rfl, rfl⟩
    refine q_op_g (t := 111) (dst := some 114) rfl rfl rfl hc39 (fun _ ho => ok_ibin ho (.tmp rfl) (.int _ _) rfl) ?_
    refine q_op (dst := some 115) rfl (fun _ ho => ok_pick_tt ho (.tmp rfl) hc39 (.tmp rfl)) ?_
    try dsimp only [HAct.put, List.set_cons_zero, List.set_cons_succ]
    try dsimp only [HAct.put, List.set_cons_zero, List.set_cons_succ]
    exact J8_snd hD hH h
  · refine q_skip (dst := some 112) (t := 111) rfl rfl rfl (bfalse hc39) ?_
    refine q_skip (dst := some 113) (t := 111) rfl rfl rfl (bfalse hc39) ?_
    refine q_skip (dst := some 114) (t := 111) rfl rfl rfl (bfalse hc39) ?_
    refine q_op (dst := some 115) rfl (fun _ ho => ok_pick_ff ho (.tmp rfl) (bfalse hc39) (.bool _)) ?_
    try dsimp only [HAct.put, List.set_cons_zero, List.set_cons_succ]
    try dsimp only [HAct.put, List.set_cons_zero, List.set_cons_succ]
    exact J8_snd hD hH h
def L5 (D : Dp) (H : Hd) (k : Nat) : Nat → Int → Sl → (Option HA) → (List UInt8) → (List UInt8) → Int → HS → Option ((Bool) × HS)
  | 0, _, _, _, _, _, _, _ => none
  | n + 1, y0, y1, y5, y7, y8, y9, S =>
    (if y9 < (Sl.len y1 : Int) then
    (Option.bind (HS.idx S y1 y9 3) fun p13 =>
    (Option.bind (HS.ldS S (HA.fld p13 1)) fun p14 =>
    (if (List.length p14 : Int) > 600 then
    some (true, S) else
    (Option.bind (HS.idx S y1 y9 3) fun p16 =>
    (Option.bind (HS.ldI S .i64 (HA.fld p16 0)) fun p17 =>
    (if p17 = 1 then
    (Option.bind (HS.idx S y1 y9 3) fun p19 =>
    (Option.bind (HS.ldI S .i64 (HA.fld p19 2)) fun p20 =>
    (Option.bind (sendq_Queue_Drain.f k y5 p20 S) fun p21 =>
    (Option.bind (HS.text p21.2 p21.1) fun p22 =>
    (if List.length y8 + List.length p22 ≤ 9223372036854775807 then
    J6 D H k (L5 D H k n) y0 y1 y5 y7 (y8 ++ p22) y9 p21.2 else none))))) else
    (Option.bind (HS.idx S y1 y9 3) fun p26 =>
    (Option.bind (HS.ldS S (HA.fld p26 1)) fun p27 =>
    (Option.bind (sendq_Queue_Push.f k y5 p27 S) fun p28 =>
    (if p28.1 = true then
    (Option.bind (HS.idx p28.2 y1 y9 3) fun p30 =>
    (Option.bind (HS.ldS p28.2 (HA.fld p30 1)) fun p31 =>
    (if List.length p31 + List.length ([13, 10] : List UInt8) ≤ 9223372036854775807 then
    (if List.length y7 + List.length (p31 ++ ([13, 10] : List UInt8)) ≤ 9223372036854775807 then
    J6 D H k (L5 D H k n) y0 y1 y5 (y7 ++ (p31 ++ ([13, 10] : List UInt8))) y8 y9 p28.2 else none) else none))) else
    J6 D H k (L5 D H k n) y0 y1 y5 y7 y8 y9 p28.2)))))))))) else
    (Option.bind (sendq_Queue_Len.f y5 S) fun p34 =>
    (Option.bind (sendq_Queue_Drain.f k y5 p34.1 p34.2) fun p35 =>
    (Option.bind (HS.text p35.2 p35.1) fun p36 =>
    (if List.length y8 + List.length p36 ≤ 9223372036854775807 then
    (if (y8 ++ p36) = y7 then
    J7 D H k y5 (decide ((List.length p36 : Int) = p34.1)) p35.2 else
    J7 D H k y5 false p35.2) else none)))))
theorem L5_snd {D : Dp} {H : Hd} {k : Nat} (hD : DSound Try.prog base W0 D) (hH : HSound Try.prog base W0 β0 H)  : ∀ {n : Nat} ⦃y0 : Int⦄ ⦃y1 : Sl⦄ ⦃y5 : (Option HA)⦄ ⦃y7 : (List UInt8)⦄ ⦃y8 : (List UInt8)⦄ ⦃y9 : Int⦄ ⦃S : HS⦄ ⦃p : (Bool) × HS⦄ ⦃g2 g3 g4 g6 g10 g11 g12 g13 g14 g15 g16 g17 g18 g19 g20 g21 g22 g23 g24 g25 g26 g27 g28 g29 g30 g31 g32 g33 g34 g35 g36 g37 g38 g39 g40 g41 g42 g43 g44 g45 g46 g47 g48 g49 g50 g51 g52 g53 g54 g55 g56 g57 g58 g59 g60 g61 g62 g63 g64 g65 g66 g67 g68 g69 g70 g71 g72 g73 g74 g75 g76 g77 g78 g79 g80 g81 g82 g83 g84 g85 g86 g87 g88 g89 g90 g91 g92 g93 g94 g95 g96 g97 g98 g99 g100 g101 g102 g103 g104 g105 g106 g107 g108 g109 g110 g111 g112 g113 g114 g115 g116 g117 g118 g119 g120 g121 : HV⦄, L5 D H k n y0 y1 y5 y7 y8 y9 S = some p → HRun Try.prog base W0 β0 3 none [.inLoop c27, .inBlock 0, .code c61] ⟨[(.int .u16 y0), (Sl.hv y1), g2, g3, g4, (.ptr y5), g6, (.str y7), (.str y8), (.int .i64 y9), g10, g11, g12, g13, g14, g15, g16, g17, g18, g19, g20, g21, g22, g23, g24, g25, g26, g27, g28, g29, g30, g31, g32, g33, g34, g35, g36, g37, g38, g39, g40, g41, g42, g43, g44, g45, g46, g47, g48, g49, g50, g51, g52, g53, g54, g55, g56, g57, g58, g59, g60, g61, g62, g63, g64, g65, g66, g67, g68, g69, g70, g71, g72, g73, g74, g75, g76, g77, g78, g79, g80, g81, g82, g83, g84, g85, g86, g87, g88, g89, g90, g91, g92, g93, g94, g95, g96, g97, g98, g99, g100, g101, g102, g103, g104, g105, g106, g107, g108, g109, g110, g111, g112, g113, g114, g115, g116, g117, g118, g119, g120, g121], []⟩ S (fun v S1 => v = (.bool p.1) ∧ S1 = p.2) := by
  intro n
  induction n with
  | zero => intro _ _ _ _ _ _ _ _ _ _ _ _ _ _ _ _ _ _ _ _ _ _ _ _ _ _ _ _ _ _ _ _ _ _ _ _ _ _ _ _ _ _ _ _ _ _ _ _ _ _ _ _ _ _ _ _ _ _ _ _ _ _ _ _ _ _ _ _ _ _ _ _ _ _ _ _ _ _ _ _ _ _ _ _ _ _ _ _ _ _ _ _ _ _ _ _ _ _ _ _ _ _ _ _ _ _ _ _ _ _ _ _ _ _ _ _ _ _ _ _ _ _ _ _ h; cases h
  | succ n ih =>
    intro y0 y1 y5 y7 y8 y9 S p g2 g3 g4 g6 g10 g11 g12 g13 g14 g15 g16 g17 g18 g19 g20 g21 g22 g23 g24 g25 g26 g27 g28 g29 g30 g31 g32 g33 g34 g35 g36 g37 g38 g39 g40 g41 g42 g43 g44 g45 g46 g47 g48 g49 g50 g51 g52 g53 g54 g55 g56 g57 g58 g59 g60 g61 g62 g63 g64 g65 g66 g67 g68 g69 g70 g71 g72 g73 g74 g75 g76 g77 g78 g79 g80 g81 g82 g83 g84 g85 g86 g87 g88 g89 g90 g91 g92 g93 g94 g95 g96 g97 g98 g99 g100 g101 g102 g103 g104 g105 g106 g107 g108 g109 g110 g111 g112 g113 g114 g115 g116 g117 g118 g119 g120 g121 h
    simp only [L5] at h
    refine hr_inLoop ?_
    refine q_seq e27 ?_
    refine q_seq e28 ?_
    refine q_region e29 rfl ?_
    refine q_op (dst := some 45) rfl (fun _ ho => ok_move ho (.tmp rfl)) ?_
    refine q_op (dst := some 46) rfl (fun _ ho => ok_move ho (.tmp rfl)) ?_
    refine q_op (dst := some 47) rfl (fun _ ho => ok_len_sl (q := Sl.a y1) (n := Sl.len y1) (z := Sl.cap y1) ho rfl tu23 (.tmp rfl)) ?_
    refine q_op (dst := some 48) rfl (fun _ ho => ok_ibin ho (.tmp rfl) (.tmp rfl) rfl) ?_
    refine hr_region_end ?_
    try dsimp only [HAct.put, List.set_cons_zero, List.set_cons_succ]
    rcases ifc h with ⟨hc12, h⟩ | ⟨hc12, h⟩
    · refine q_cond_t e30 (.tmp rfl) (decide_eq_true hc12) ?_
      refine q_skipc e31 ?_
      refine q_seq e33 ?_
      refine q_block e34 ?_
      refine q_seq e35 ?_
      refine q_seq e36 ?_
      refine q_region e37 rfl ?_
      refine q_op (dst := some 51) rfl (fun _ ho => ok_move ho (.tmp rfl)) ?_
      refine q_op (dst := some 52) rfl (fun _ ho => ok_move ho (.tmp rfl)) ?_
      obtain ⟨p13, hp13, h⟩ := bindo h
      refine q_op (dst := some 53) rfl (fun _ ho => ok_indexAddr (s := y1) ho tu23 sz30 (.tmp rfl) (.tmp rfl) hp13) ?_
      refine q_op (dst := some 54) rfl (fun _ ho => ok_fieldAddr_s ho fi30_1 (by decide) (.tmp rfl) rfl) ?_
      try dsimp only [HAct.put, List.set_cons_zero, List.set_cons_succ]
      obtain ⟨p14, hp14, h⟩ := bindo h
      refine q_op (dst := some 55) rfl (fun _ ho => ok_load_s ho sc9 (.tmp rfl) rfl (ldS_out hp14)) ?_
      refine q_op (dst := some 56) rfl (fun _ ho => ok_len_str ho rfl tu9 (.tmp rfl)) ?_
      refine q_op (dst := some 57) rfl (fun _ ho => ok_ibin ho (.tmp rfl) (.int _ _) rfl) ?_
      refine hr_region_end ?_
      try dsimp only [HAct.put, List.set_cons_zero, List.set_cons_succ]
      rcases ifc h with ⟨hc15, h⟩ | ⟨hc15, h⟩
      · refine q_cond_t e38 (.tmp rfl) (decide_eq_true hc15) ?_
        refine q_seq e39 ?_
        refine q_region e40 rfl ?_
        refine q_op (dst := some 4) rfl (fun _ ho => ok_assign ho (.bool _)) ?_
        refine hr_region_end ?_
        try dsimp only [HAct.put, List.set_cons_zero, List.set_cons_succ]
        cases h
        exact q_ret e41 at_.at_ rfl (res1 rfl rfl) ⟨rfl, rfl⟩
      · refine q_cond_f e38 (.tmp rfl) (decide_eq_false hc15) ?_
        refine q_skipc e42 ?_
        refine q_seq e43 ?_
        refine q_seq e44 ?_
        refine q_region e45 rfl ?_
        refine q_op (dst := some 58) rfl (fun _ ho => ok_move ho (.tmp rfl)) ?_
        refine q_op (dst := some 59) rfl (fun _ ho => ok_move ho (.tmp rfl)) ?_
        obtain ⟨p16, hp16, h⟩ := bindo h
        refine q_op (dst := some 60) rfl (fun _ ho => ok_indexAddr (s := y1) ho tu23 sz30 (.tmp rfl) (.tmp rfl) hp16) ?_
        refine q_op (dst := some 61) rfl (fun _ ho => ok_fieldAddr_s ho fi30_0 (by decide) (.tmp rfl) rfl) ?_
        try dsimp only [HAct.put, List.set_cons_zero, List.set_cons_succ]
        obtain ⟨p17, hp17, h⟩ := bindo h
        refine q_op (dst := some 62) rfl (fun _ ho => ok_load_s ho sc3 (.tmp rfl) rfl (ldI_out hp17)) ?_
        refine q_op (dst := some 63) rfl (fun _ ho => ok_ibin ho (.tmp rfl) (.int _ _) rfl) ?_
        refine hr_region_end ?_
        try dsimp only [HAct.put, List.set_cons_zero, List.set_cons_succ]
        rcases ifc h with ⟨hc18, h⟩ | ⟨hc18, h⟩
        · refine q_cond_t e46 (.tmp rfl) (decide_eq_true hc18) ?_
          refine q_region e47 rfl ?_
          refine q_op (dst := some 64) rfl (fun _ ho => ok_move ho (.tmp rfl)) ?_
          refine q_op (dst := some 65) rfl (fun _ ho => ok_move ho (.tmp rfl)) ?_
          refine q_op (dst := some 66) rfl (fun _ ho => ok_move ho (.tmp rfl)) ?_
          refine q_op (dst := some 67) rfl (fun _ ho => ok_move ho (.tmp rfl)) ?_
          try dsimp only [HAct.put, List.set_cons_zero, List.set_cons_succ]
          obtain ⟨p19, hp19, h⟩ := bindo h
          refine q_op (dst := some 68) rfl (fun _ ho => ok_indexAddr (s := y1) ho tu23 sz30 (.tmp rfl) (.tmp rfl) hp19) ?_
          refine q_op (dst := some 69) rfl (fun _ ho => ok_fieldAddr_s ho fi30_2 (by decide) (.tmp rfl) rfl) ?_
          obtain ⟨p20, hp20, h⟩ := bindo h
          refine q_op (dst := some 70) rfl (fun _ ho => ok_load_s ho sc3 (.tmp rfl) rfl (ldI_out hp20)) ?_
          obtain ⟨p21, hp21, h⟩ := bindo h
          refine q_call (dst := some 71) rfl (.func _) (.cons (.tmp rfl) (.cons (.tmp rfl) Evs.nil)) (HInv.static sendq_Queue_Drain.at_ sendq_Queue_Drain.body (sendq_Queue_Drain.snd  hp21)) ?_
          rintro _ _ ⟨rfl, rfl⟩
          try dsimp only [HAct.put, List.set_cons_zero, List.set_cons_succ]
          obtain ⟨p22, hp22, h⟩ := bindo h
          refine q_op (dst := some 72) rfl (fun _ ho => ok_str_of_bytes (s := p21.1) ho tu31 tu5 tu9 (.tmp rfl) hp22) ?_
          obtain ⟨hg23, h⟩ := gd h
          refine q_op (dst := some 73) rfl (fun _ ho => ok_sadd ho (.tmp rfl) (.tmp rfl) hg23) ?_
          refine q_op (dst := some 8) rfl (fun _ ho => ok_assign ho (.tmp rfl)) ?_
          refine hr_region_end ?_
          try dsimp only [HAct.put, List.set_cons_zero, List.set_cons_succ]
          try dsimp only [HAct.put, List.set_cons_zero, List.set_cons_succ]
          exact J6_snd hD hH ih h
        · refine q_cond_f e46 (.tmp rfl) (decide_eq_false hc18) ?_
          refine q_seq e48 ?_
          refine q_region e49 rfl ?_
          refine q_op (dst := some 74) rfl (fun _ ho => ok_move ho (.tmp rfl)) ?_
          refine q_op (dst := some 75) rfl (fun _ ho => ok_move ho (.tmp rfl)) ?_
          refine q_op (dst := some 76) rfl (fun _ ho => ok_move ho (.tmp rfl)) ?_
          obtain ⟨p26, hp26, h⟩ := bindo h
          refine q_op (dst := some 77) rfl (fun _ ho => ok_indexAddr (s := y1) ho tu23 sz30 (.tmp rfl) (.tmp rfl) hp26) ?_
          try dsimp only [HAct.put, List.set_cons_zero, List.set_cons_succ]
          refine q_op (dst := some 78) rfl (fun _ ho => ok_fieldAddr_s ho fi30_1 (by decide) (.tmp rfl) rfl) ?_
          obtain ⟨p27, hp27, h⟩ := bindo h
          refine q_op (dst := some 79) rfl (fun _ ho => ok_load_s ho sc9 (.tmp rfl) rfl (ldS_out hp27)) ?_
          obtain ⟨p28, hp28, h⟩ := bindo h
          refine q_call (dst := some 80) rfl (.func _) (.cons (.tmp rfl) (.cons (.tmp rfl) Evs.nil)) (HInv.static sendq_Queue_Push.at_ sendq_Queue_Push.body (sendq_Queue_Push.snd  hp28)) ?_
          rintro _ _ ⟨rfl, rfl⟩
          refine hr_region_end ?_
          try dsimp only [HAct.put, List.set_cons_zero, List.set_cons_succ]
          rcases ifc h with ⟨hc29, h⟩ | ⟨hc29, h⟩
          · refine q_cond_t e50 (.tmp rfl) hc29 ?_
            refine q_region e51 rfl ?_
            refine q_op (dst := some 81) rfl (fun _ ho => ok_move ho (.tmp rfl)) ?_
            refine q_op (dst := some 82) rfl (fun _ ho => ok_move ho (.tmp rfl)) ?_
            refine q_op (dst := some 83) rfl (fun _ ho => ok_move ho (.tmp rfl)) ?_
            obtain ⟨p30, hp30, h⟩ := bindo h
            refine q_op (dst := some 84) rfl (fun _ ho => ok_indexAddr (s := y1) ho tu23 sz30 (.tmp rfl) (.tmp rfl) hp30) ?_
            try dsimp only [HAct.put, List.set_cons_zero, List.set_cons_succ]
            refine q_op (dst := some 85) rfl (fun _ ho => ok_fieldAddr_s ho fi30_1 (by decide) (.tmp rfl) rfl) ?_
            obtain ⟨p31, hp31, h⟩ := bindo h
            refine q_op (dst := some 86) rfl (fun _ ho => ok_load_s ho sc9 (.tmp rfl) rfl (ldS_out hp31)) ?_
            obtain ⟨hg32, h⟩ := gd h
            refine q_op (dst := some 87) rfl (fun _ ho => ok_sadd ho (.tmp rfl) (.str _) hg32) ?_
            obtain ⟨hg33, h⟩ := gd h
            refine q_op (dst := some 88) rfl (fun _ ho => ok_sadd ho (.tmp rfl) (.tmp rfl) hg33) ?_
            try dsimp only [HAct.put, List.set_cons_zero, List.set_cons_succ]
            refine q_op (dst := some 7) rfl (fun _ ho => ok_assign ho (.tmp rfl)) ?_
            refine hr_region_end ?_
            try dsimp only [HAct.put, List.set_cons_zero, List.set_cons_succ]
            try dsimp only [HAct.put, List.set_cons_zero, List.set_cons_succ]
            exact J6_snd hD hH ih h
          · refine q_cond_f e50 (.tmp rfl) (bfalse hc29) ?_
            refine q_skipc e52 ?_
            try dsimp only [HAct.put, List.set_cons_zero, List.set_cons_succ]
            exact J6_snd hD hH ih h
    · refine q_cond_f e30 (.tmp rfl) (decide_eq_false hc12) ?_
      refine q_exit e32 rfl ?_
      refine q_seq e61 ?_
      refine q_region e62 rfl ?_
      refine q_op (dst := some 94) rfl (fun _ ho => ok_move ho (.tmp rfl)) ?_
      obtain ⟨p34, hp34, h⟩ := bindo h
      refine q_call (dst := some 95) rfl (.func _) (.cons (.tmp rfl) Evs.nil) (HInv.static sendq_Queue_Len.at_ sendq_Queue_Len.body (sendq_Queue_Len.snd  hp34)) ?_
      rintro _ _ ⟨rfl, rfl⟩
      refine q_op (dst := some 10) rfl (fun _ ho => ok_assign ho (.tmp rfl)) ?_
      refine hr_region_end ?_
      try dsimp only [HAct.put, List.set_cons_zero, List.set_cons_succ]
      refine q_seq e63 ?_
      refine q_region e64 rfl ?_
      refine q_op (dst := some 96) rfl (fun _ ho => ok_move ho (.tmp rfl)) ?_
      refine q_op (dst := some 97) rfl (fun _ ho => ok_move ho (.tmp rfl)) ?_
      obtain ⟨p35, hp35, h⟩ := bindo h
      refine q_call (dst := some 98) rfl (.func _) (.cons (.tmp rfl) (.cons (.tmp rfl) Evs.nil)) (HInv.static sendq_Queue_Drain.at_ sendq_Queue_Drain.body (sendq_Queue_Drain.snd  hp35)) ?_
      rintro _ _ ⟨rfl, rfl⟩
      obtain ⟨p36, hp36, h⟩ := bindo h
      refine q_op (dst := some 99) rfl (fun _ ho => ok_str_of_bytes (s := p35.1) ho tu31 tu5 tu9 (.tmp rfl) hp36) ?_
      try dsimp only [HAct.put, List.set_cons_zero, List.set_cons_succ]
      refine q_op (dst := some 11) rfl (fun _ ho => ok_assign ho (.tmp rfl)) ?_
      refine hr_region_end ?_
      try dsimp only [HAct.put, List.set_cons_zero, List.set_cons_succ]
      refine q_seq e65 ?_
      refine q_region e66 rfl ?_
      refine q_op (dst := some 100) rfl (fun _ ho => ok_move ho (.tmp rfl)) ?_
      refine q_op (dst := some 101) rfl (fun _ ho => ok_move ho (.tmp rfl)) ?_
      obtain ⟨hg37, h⟩ := gd h
      refine q_op (dst := some 102) rfl (fun _ ho => ok_sadd ho (.tmp rfl) (.tmp rfl) hg37) ?_
      refine q_op (dst := some 103) rfl (fun _ ho => ok_move ho (.tmp rfl)) ?_
      try dsimp only [HAct.put, List.set_cons_zero, List.set_cons_succ]
      refine q_op (dst := some 104) rfl (fun _ ho => ok_sbin ho (.tmp rfl) (.tmp rfl) rfl) ?_
      refine q_op (dst := some 105) rfl (fun _ ho => ok_move ho (.tmp rfl)) ?_
      rcases ifc h with ⟨hc38, h⟩ | ⟨hc38, h⟩
      · refine q_op_g (t := 105) (dst := some 106) rfl rfl rfl (decide_eq_true hc38) (fun _ ho => ok_move ho (.tmp rfl)) ?_
        refine q_op_g (t := 105) (dst := some 107) rfl rfl rfl (decide_eq_true hc38) (fun _ ho => ok_len_str ho rfl tu9 (.tmp rfl)) ?_
        try dsimp only [HAct.put, List.set_cons_zero, List.set_cons_succ]
        refine q_op_g (t := 105) (dst := some 108) rfl rfl rfl (decide_eq_true hc38) (fun _ ho => ok_move ho (.tmp rfl)) ?_
        refine q_op_g (t := 105) (dst := some 109) rfl rfl rfl (decide_eq_true hc38) (fun _ ho => ok_ibin ho (.tmp rfl) (.tmp rfl) rfl) ?_
        refine q_op (dst := some 110) rfl (fun _ ho => ok_pick_tt ho (.tmp rfl) (decide_eq_true hc38) (.tmp rfl)) ?_
        try dsimp only [HAct.put, List.set_cons_zero, List.set_cons_succ]
        exact J7_snd hD hH h
      · refine q_skip (dst := some 106) (t := 105) rfl rfl rfl (decide_eq_false hc38) ?_
        refine q_skip (dst := some 107) (t := 105) rfl rfl rfl (decide_eq_false hc38) ?_
        try dsimp only [HAct.put, List.set_cons_zero, List.set_cons_succ]
        refine q_skip (dst := some 108) (t := 105) rfl rfl rfl (decide_eq_false hc38) ?_
        refine q_skip (dst := some 109) (t := 105) rfl rfl rfl (decide_eq_false hc38) ?_
        refine q_op (dst := some 110) rfl (fun _ ho => ok_pick_ff ho (.tmp rfl) (decide_eq_false hc38) (.bool _)) ?_
        try dsimp only [HAct.put, List.set_cons_zero, List.set_cons_succ]
        exact J7_snd hD hH h
def J0 (D : Dp) (H : Hd) (k : Nat) (y0 : Int) (y1 : Sl) (y5 : (Option HA)) (y6 : Int) (y26 : Bool) (S : HS) : Option ((Bool) × HS) :=
  (if y26 = true then
  (if (Option.isNone y5) = true then
  (if y0 < 512 then
  J1 D H k y5 y6 (Option.isNone y5) (decide (y6 = 2)) S else
  J1 D H k y5 y6 (Option.isNone y5) false S) else
  J2 D H k y5 y6 false S) else
  L5 D H k k y0 y1 y5 ([] : List UInt8) ([] : List UInt8) 0 S)
theorem J0_snd {D : Dp} {H : Hd} {k : Nat} (hD : DSound Try.prog base W0 D) (hH : HSound Try.prog base W0 β0 H)  {y0 : Int} {y1 : Sl} {y5 : (Option HA)} {y6 : Int} {y26 : Bool} {S : HS} {p : (Bool) × HS} {g2 g3 g4 g7 g8 g9 g10 g11 g12 g13 g14 g15 g16 g17 g18 g19 g20 g21 g22 g23 g24 g25 g27 g28 g29 g30 g31 g32 g33 g34 g35 g36 g37 g38 g39 g40 g41 g42 g43 g44 g45 g46 g47 g48 g49 g50 g51 g52 g53 g54 g55 g56 g57 g58 g59 g60 g61 g62 g63 g64 g65 g66 g67 g68 g69 g70 g71 g72 g73 g74 g75 g76 g77 g78 g79 g80 g81 g82 g83 g84 g85 g86 g87 g88 g89 g90 g91 g92 g93 g94 g95 g96 g97 g98 g99 g100 g101 g102 g103 g104 g105 g106 g107 g108 g109 g110 g111 g112 g113 g114 g115 g116 g117 g118 g119 g120 g121 : HV} (h : J0 D H k y0 y1 y5 y6 y26 S = some p) : HRun Try.prog base W0 β0 3 none [.code c15, .code c20] ⟨[(.int .u16 y0), (Sl.hv y1), g2, g3, g4, (.ptr y5), (.int .i64 y6), g7, g8, g9, g10, g11, g12, g13, g14, g15, g16, g17, g18, g19, g20, g21, g22, g23, g24, g25, (.bool y26), g27, g28, g29, g30, g31, g32, g33, g34, g35, g36, g37, g38, g39, g40, g41, g42, g43, g44, g45, g46, g47, g48, g49, g50, g51, g52, g53, g54, g55, g56, g57, g58, g59, g60, g61, g62, g63, g64, g65, g66, g67, g68, g69, g70, g71, g72, g73, g74, g75, g76, g77, g78, g79, g80, g81, g82, g83, g84, g85, g86, g87, g88, g89, g90, g91, g92, g93, g94, g95, g96, g97, g98, g99, g100, g101, g102, g103, g104, g105, g106, g107, g108, g109, g110, g111, g112, g113, g114, g115, g116, g117, g118, g119, g120, g121], []⟩ S (fun v S1 => v = (.bool p.1) ∧ S1 = p.2) := by
  unfold J0 at h
  rcases ifc h with ⟨hc5, h⟩ | ⟨hc5, h⟩
  · refine q_cond_t e15 (.tmp rfl) hc5 ?_
    refine q_seq e16 ?_
    refine q_region e17 rfl ?_
    refine q_op (dst := some 27) rfl (fun _ ho => ok_move ho (.tmp rfl)) ?_
    refine q_op (dst := some 28) rfl (fun _ ho => ok_nil_ptr ho tu25 (.tmp rfl) (.inl ⟨rfl, rfl⟩)) ?_
    refine q_op (dst := some 29) rfl (fun _ ho => ok_move ho (.tmp rfl)) ?_
    rcases ifc h with ⟨hc6, h⟩ | ⟨hc6, h⟩
    · refine q_op_g (t := 29) (dst := some 30) rfl rfl rfl hc6 (fun _ ho => ok_move ho (.tmp rfl)) ?_
      try dsimp only [HAct.put, List.set_cons_zero, List.set_cons_succ]
      refine q_op_g (t := 29) (dst := some 31) rfl rfl rfl hc6 (fun _ ho => ok_ibin ho (.tmp rfl) (.int _ _) rfl) ?_
      refine q_op_g (t := 29) (dst := some 32) rfl rfl rfl hc6 (fun _ ho => ok_move ho (.tmp rfl)) ?_
      rcases ifc h with ⟨hc7, h⟩ | ⟨hc7, h⟩
      · refine q_op_g (t := 32) (dst := some 33) rfl rfl rfl (decide_eq_true hc7) (fun _ ho => ok_move ho (.tmp rfl)) ?_
        refine q_op_g (t := 32) (dst := some 34) rfl rfl rfl (decide_eq_true hc7) (fun _ ho => ok_ibin ho (.tmp rfl) (.int _ _) rfl) ?_
        try dsimp only [HAct.put, List.set_cons_zero, List.set_cons_succ]
        refine q_op_g (t := 29) (dst := some 35) rfl rfl rfl hc6 (fun _ ho => ok_pick_tt ho (.tmp rfl) (decide_eq_true hc7) (.tmp rfl)) ?_
        try dsimp only [HAct.put, List.set_cons_zero, List.set_cons_succ]
        exact J1_snd hD hH h
      · refine q_skip (dst := some 33) (t := 32) rfl rfl rfl (decide_eq_false hc7) ?_
        refine q_skip (dst := some 34) (t := 32) rfl rfl rfl (decide_eq_false hc7) ?_
        try dsimp only [HAct.put, List.set_cons_zero, List.set_cons_succ]
        refine q_op_g (t := 29) (dst := some 35) rfl rfl rfl hc6 (fun _ ho => ok_pick_ff ho (.tmp rfl) (decide_eq_false hc7) (.bool _)) ?_
        try dsimp only [HAct.put, List.set_cons_zero, List.set_cons_succ]
        exact J1_snd hD hH h
    · refine q_skip (dst := some 30) (t := 29) rfl rfl rfl (bfalse hc6) ?_
      try dsimp only [HAct.put, List.set_cons_zero, List.set_cons_succ]
      refine q_skip (dst := some 31) (t := 29) rfl rfl rfl (bfalse hc6) ?_
      refine q_skip (dst := some 32) (t := 29) rfl rfl rfl (bfalse hc6) ?_
      refine q_skip_u (dst := some 33) (t := 32) rfl rfl rfl ?_
      refine q_skip_u (dst := some 34) (t := 32) rfl rfl rfl ?_
      try dsimp only [HAct.put, List.set_cons_zero, List.set_cons_succ]
      refine q_skip (dst := some 35) (t := 29) rfl rfl rfl (bfalse hc6) ?_
      refine q_op (dst := some 36) rfl (fun _ ho => ok_pick_ff ho (.tmp rfl) (bfalse hc6) (.bool _)) ?_
      try dsimp only [HAct.put, List.set_cons_zero, List.set_cons_succ]
      exact J2_snd hD hH h
  · refine q_cond_f e15 (.tmp rfl) (bfalse hc5) ?_
    refine q_skipc e19 ?_
    refine q_seq e20 ?_
    refine q_region e21 rfl ?_
    refine q_op (dst := some 7) rfl (fun _ ho => ok_assign ho (.str _)) ?_
    refine q_op (dst := some 8) rfl (fun _ ho => ok_assign ho (.str _)) ?_
    refine hr_region_end ?_
    try dsimp only [HAct.put, List.set_cons_zero, List.set_cons_succ]
    refine q_seq e22 ?_
    refine q_seq e23 ?_
    refine q_region e24 rfl ?_
    refine q_op (dst := some 9) rfl (fun _ ho => ok_assign ho (.int _ _)) ?_
    refine hr_region_end ?_
    try dsimp only [HAct.put, List.set_cons_zero, List.set_cons_succ]
    refine q_block e25 ?_
    refine q_loop e26 ?_
    try dsimp only [HAct.put, List.set_cons_zero, List.set_cons_succ]
    exact L5_snd hD hH h
def f (D : Dp) (H : Hd) (k : Nat) (x0 : Int) (x1 : Sl) (S : HS) : Option ((Bool) × HS) :=
  (Option.bind (rollcalllaw08_awake.f D H k S) fun p1 =>
  (if (!p1.1) = true then
  some (false, p1.2) else
  (Option.bind (sendq_New.f (w64 x0) p1.2) fun p3 =>
  (if (!decide (p3.1.2 = 0)) = true then
  J0 D H k x0 x1 p3.1.1 p3.1.2 true p3.2 else
  J0 D H k x0 x1 p3.1.1 p3.1.2 (decide ((Sl.len x1 : Int) > 40)) p3.2))))
theorem snd {D : Dp} {H : Hd} {k : Nat} {x0 : Int} {x1 : Sl} {S : HS} (hD : DSound Try.prog base W0 D) (hH : HSound Try.prog base W0 β0 H)  {p : (Bool) × HS} (h : f D H k x0 x1 S = some p) : HCall Try.prog base W0 β0 3 [(.int .u16 x0), (Sl.hv x1)] S (fun v S1 => v = (.bool p.1) ∧ S1 = p.2) := by
  unfold f at h
  refine HCall.of_run at_.at_ body ?_
  show HRun Try.prog base W0 β0 3 none [.code c0] ⟨[(.int .u16 x0), (Sl.hv x1), .tup [], .tup [], .tup [], .tup [], .tup [], .tup [], .tup [], .tup [], .tup [], .tup [], .tup [], .tup [], .tup [], .tup [], .tup [], .tup [], .tup [], .tup [], .tup [], .tup [], .tup [], .tup [], .tup [], .tup [], .tup [], .tup [], .tup [], .tup [], .tup [], .tup [], .tup [], .tup [], .tup [], .tup [], .tup [], .tup [], .tup [], .tup [], .tup [], .tup [], .tup [], .tup [], .tup [], .tup [], .tup [], .tup [], .tup [], .tup [], .tup [], .tup [], .tup [], .tup [], .tup [], .tup [], .tup [], .tup [], .tup [], .tup [], .tup [], .tup [], .tup [], .tup [], .tup [], .tup [], .tup [], .tup [], .tup [], .tup [], .tup [], .tup [], .tup [], .tup [], .tup [], .tup [], .tup [], .tup [], .tup [], .tup [], .tup [], .tup [], .tup [], .tup [], .tup [], .tup [], .tup [], .tup [], .tup [], .tup [], .tup [], .tup [], .tup [], .tup [], .tup [], .tup [], .tup [], .tup [], .tup [], .tup [], .tup [], .tup [], .tup [], .tup [], .tup [], .tup [], .tup [], .tup [], .tup [], .tup [], .tup [], .tup [], .tup [], .tup [], .tup [], .tup [], .tup [], .tup [], .tup [], .tup [], .tup [], .tup []], []⟩ S _
  refine q_seq e0 ?_
  refine q_region e1 rfl ?_
  refine q_op (dst := some 4) rfl (fun _ ho => ok_assign ho (.bool _)) ?_
  refine hr_region_end ?_
  try dsimp only [HAct.put, List.set_cons_zero, List.set_cons_succ]
  refine q_seq e2 ?_
  refine q_seq e3 ?_
  refine q_region e4 rfl ?_
  obtain ⟨p1, hp1, h⟩ := bindo h
  refine q_call (dst := some 12) rfl (.func _) Evs.nil (HInv.static rollcalllaw08_awake.at_ rollcalllaw08_awake.body (rollcalllaw08_awake.snd hD hH hp1)) ?_
  rintro _ _ ⟨rfl, rfl⟩
  refine q_op (dst := some 13) rfl (fun _ ho => ok_not ho (.tmp rfl)) ?_
  refine hr_region_end ?_
  try dsimp only [HAct.put, List.set_cons_zero, List.set_cons_succ]
  rcases ifc h with ⟨hc2, h⟩ | ⟨hc2, h⟩
  · refine q_cond_t e5 (.tmp rfl) hc2 ?_
    refine q_seq e6 ?_
    refine q_region e7 rfl ?_
    refine q_op (dst := some 4) rfl (fun _ ho => ok_assign ho (.bool _)) ?_
    refine hr_region_end ?_
    try dsimp only [HAct.put, List.set_cons_zero, List.set_cons_succ]
    cases h
    exact q_ret e8 at_.at_ rfl (res1 rfl rfl) ⟨rfl, rfl⟩
  · refine q_cond_f e5 (.tmp rfl) (bfalse hc2) ?_
    refine q_skipc e9 ?_
    refine q_seq e10 ?_
    refine q_region e11 rfl ?_
    refine q_op (dst := some 15) rfl (fun _ ho => ok_move ho (.tmp rfl)) ?_
    refine q_op (dst := some 16) rfl (fun _ ho => ok_conv_int ho tu22 tu3 (.tmp rfl)) ?_
    obtain ⟨p3, hp3, h⟩ := bindo h
    refine q_call (dst := some 17) rfl (.func _) (.cons (.tmp rfl) Evs.nil) (HInv.static sendq_New.at_ sendq_New.body (sendq_New.snd  hp3)) ?_
    rintro _ _ ⟨rfl, rfl⟩
    refine q_op (dst := some 14) rfl (fun _ ho => ok_move ho (.tmp rfl)) ?_
    try dsimp only [HAct.put, List.set_cons_zero, List.set_cons_succ]
    refine q_op (dst := some 18) rfl (fun _ ho => ok_extract ho (.tmp rfl) rfl) ?_
    refine q_op (dst := some 19) rfl (fun _ ho => ok_extract ho (.tmp rfl) rfl) ?_
    refine q_op (dst := some 5) rfl (fun _ ho => ok_assign ho (.tmp rfl)) ?_
    refine q_op (dst := some 6) rfl (fun _ ho => ok_assign ho (.tmp rfl)) ?_
    refine hr_region_end ?_
    try dsimp only [HAct.put, List.set_cons_zero, List.set_cons_succ]
    refine q_seq e12 ?_
    refine q_seq e13 ?_
    refine q_region e14 rfl ?_
    refine q_op (dst := some 20) rfl (fun _ ho => ok_move ho (.tmp rfl)) ?_
    refine q_op (dst := some 21) rfl (fun _ ho => ok_ibin ho (.tmp rfl) (.int _ _) rfl) ?_
    refine q_op (dst := some 22) rfl (fun _ ho => ok_move ho (.tmp rfl)) ?_
    rcases ifc h with ⟨hc4, h⟩ | ⟨hc4, h⟩
    · refine q_skip (dst := some 23) (t := 22) rfl rfl rfl hc4 ?_
      try dsimp only [HAct.put, List.set_cons_zero, List.set_cons_succ]
      refine q_skip (dst := some 24) (t := 22) rfl rfl rfl hc4 ?_
      refine q_skip (dst := some 25) (t := 22) rfl rfl rfl hc4 ?_
      refine q_op (dst := some 26) rfl (fun _ ho => ok_pick_tt ho (.tmp rfl) hc4 (.bool _)) ?_
      refine hr_region_end ?_
      try dsimp only [HAct.put, List.set_cons_zero, List.set_cons_succ]
      try dsimp only [HAct.put, List.set_cons_zero, List.set_cons_succ]
      exact J0_snd hD hH h
    · refine q_op_g (t := 22) (dst := some 23) rfl rfl rfl (bfalse hc4) (fun _ ho => ok_move ho (.tmp rfl)) ?_
      try dsimp only [HAct.put, List.set_cons_zero, List.set_cons_succ]
      refine q_op_g (t := 22) (dst := some 24) rfl rfl rfl (bfalse hc4) (fun _ ho => ok_len_sl (q := Sl.a x1) (n := Sl.len x1) (z := Sl.cap x1) ho rfl tu23 (.tmp rfl)) ?_
      refine q_op_g (t := 22) (dst := some 25) rfl rfl rfl (bfalse hc4) (fun _ ho => ok_ibin ho (.tmp rfl) (.int _ _) rfl) ?_
      refine q_op (dst := some 26) rfl (fun _ ho => ok_pick_ff ho (.tmp rfl) (bfalse hc4) (.tmp rfl)) ?_
      refine hr_region_end ?_
      try dsimp only [HAct.put, List.set_cons_zero, List.set_cons_succ]
      try dsimp only [HAct.put, List.set_cons_zero, List.set_cons_succ]
      exact J0_snd hD hH h
end
end rollcalllaw08_SendqWhole
end Go.Proofs.Ytpjabhpfaahgoaa.X
