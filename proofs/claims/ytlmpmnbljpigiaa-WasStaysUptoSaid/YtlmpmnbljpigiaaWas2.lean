/- Functions of the program, each as a Lean function over the layer HL: a call answers what the Lean function answers, where it answers. -/
import Derived.Test.YtlmpmnbljpigiaaProg
import Derived.Test.YtlmpmnbljpigiaaWas
namespace Go.Proofs.Ytlmpmnbljpigiaa.X
open Go.Proofs.Ytlmpmnbljpigiaa.HL
set_option linter.unusedVariables false
set_option linter.unusedSimpArgs false
set_option maxRecDepth 20000
namespace rollcallref13_Last
abbrev id : Nat := 10
theorem at_ : FnAt Try.prog 10 Try.f10 := ⟨Try.func10, by kernel_rfl⟩
noncomputable def c0 : Code := (Try.f10.body).getD .skip
noncomputable def c1 : Code := match c0 with | .seq x _ => x | _ => .skip
noncomputable def c2 : Code := match c0 with | .seq _ x => x | _ => .skip
noncomputable def c3 : Code := match c2 with | .seq x _ => x | _ => .skip
noncomputable def c4 : Code := match c2 with | .seq _ x => x | _ => .skip
noncomputable def c5 : Code := match c4 with | .seq x _ => x | _ => .skip
noncomputable def c6 : Code := match c5 with | .seq x _ => x | _ => .skip
noncomputable def c7 : Code := match c5 with | .seq _ x => x | _ => .skip
noncomputable def c8 : Code := match c7 with | .block _ x => x | _ => .skip
noncomputable def c9 : Code := match c8 with | .loop x => x | _ => .skip
noncomputable def c10 : Code := match c9 with | .seq x _ => x | _ => .skip
noncomputable def c11 : Code := match c10 with | .seq x _ => x | _ => .skip
noncomputable def c12 : Code := match c10 with | .seq _ x => x | _ => .skip
noncomputable def c13 : Code := match c12 with | .cond _ x _ => x | _ => .skip
noncomputable def c14 : Code := match c12 with | .cond _ _ x => x | _ => .skip
noncomputable def c15 : Code := match c9 with | .seq _ x => x | _ => .skip
noncomputable def c16 : Code := match c15 with | .seq x _ => x | _ => .skip
noncomputable def c17 : Code := match c16 with | .block _ x => x | _ => .skip
noncomputable def c18 : Code := match c17 with | .seq x _ => x | _ => .skip
noncomputable def c19 : Code := match c17 with | .seq _ x => x | _ => .skip
noncomputable def c20 : Code := match c19 with | .cond _ x _ => x | _ => .skip
noncomputable def c21 : Code := match c19 with | .cond _ _ x => x | _ => .skip
noncomputable def c22 : Code := match c15 with | .seq _ x => x | _ => .skip
noncomputable def c23 : Code := match c4 with | .seq _ x => x | _ => .skip
noncomputable def c24 : Code := match c23 with | .seq x _ => x | _ => .skip
noncomputable def c25 : Code := match c23 with | .seq _ x => x | _ => .skip
theorem e0 : c0 = .seq c1 c2 := by kernel_rfl
noncomputable def r1 : Array Oper := match c1 with | .region _ x _ => x | _ => #[]
theorem e1 : c1 = .region 0 r1 false := by kernel_rfl
theorem e2 : c2 = .seq c3 c4 := by kernel_rfl
noncomputable def r3 : Array Oper := match c3 with | .region _ x _ => x | _ => #[]
theorem e3 : c3 = .region 1 r3 false := by kernel_rfl
theorem e4 : c4 = .seq c5 c23 := by kernel_rfl
theorem e5 : c5 = .seq c6 c7 := by kernel_rfl
noncomputable def r6 : Array Oper := match c6 with | .region _ x _ => x | _ => #[]
theorem e6 : c6 = .region 2 r6 false := by kernel_rfl
theorem e7 : c7 = .block 0 c8 := by kernel_rfl
theorem e8 : c8 = .loop c9 := by kernel_rfl
theorem e9 : c9 = .seq c10 c15 := by kernel_rfl
theorem e10 : c10 = .seq c11 c12 := by kernel_rfl
noncomputable def r11 : Array Oper := match c11 with | .region _ x _ => x | _ => #[]
theorem e11 : c11 = .region 3 r11 false := by kernel_rfl
theorem e12 : c12 = .cond (.tmp 23) c13 c14 := by kernel_rfl
theorem e13 : c13 = .skip := by kernel_rfl
theorem e14 : c14 = .exit 0 := by kernel_rfl
theorem e15 : c15 = .seq c16 c22 := by kernel_rfl
theorem e16 : c16 = .block 1 c17 := by kernel_rfl
theorem e17 : c17 = .seq c18 c19 := by kernel_rfl
noncomputable def r18 : Array Oper := match c18 with | .region _ x _ => x | _ => #[]
theorem e18 : c18 = .region 5 r18 false := by kernel_rfl
theorem e19 : c19 = .cond (.tmp 35) c20 c21 := by kernel_rfl
noncomputable def r20 : Array Oper := match c20 with | .region _ x _ => x | _ => #[]
theorem e20 : c20 = .region 6 r20 false := by kernel_rfl
theorem e21 : c21 = .skip := by kernel_rfl
noncomputable def r22 : Array Oper := match c22 with | .region _ x _ => x | _ => #[]
theorem e22 : c22 = .region 4 r22 false := by kernel_rfl
theorem e23 : c23 = .seq c24 c25 := by kernel_rfl
noncomputable def r24 : Array Oper := match c24 with | .region _ x _ => x | _ => #[]
theorem e24 : c24 = .region 7 r24 false := by kernel_rfl
theorem e25 : c25 = .ret := by kernel_rfl
theorem body : Try.f10.body = some c0 := by kernel_rfl
section
variable {base : Nat} {W0 : World} {β0 : Bt}
def J3 (k : Nat) (rec0 : Sl → Int → (List UInt8) → Bool → Sl → Int → HS → Option ((Sl) × HS)) (y0 : Sl) (y1 : Int) (y2 : (List UInt8)) (y3 : Bool) (y9 : Sl) (y10 : Int) (S : HS) : Option ((Sl) × HS) :=
  rec0 y0 y1 y2 y3 y9 (w64 (y10 - 1)) S
theorem J3_snd {k : Nat} {rec0 : Sl → Int → (List UInt8) → Bool → Sl → Int → HS → Option ((Sl) × HS)} (hrec0 : ∀ ⦃y0 : Sl⦄ ⦃y1 : Int⦄ ⦃y2 : (List UInt8)⦄ ⦃y3 : Bool⦄ ⦃y9 : Sl⦄ ⦃y10 : Int⦄ ⦃S : HS⦄ ⦃p : (Sl) × HS⦄ ⦃g4 g5 g6 g7 g8 g11 g12 g13 g14 g15 g16 g17 g18 g19 g20 g21 g22 g23 g24 g25 g26 g27 g28 g29 g30 g31 g32 g33 g34 g35 g36 g37 g38 g39 g40 g41 g42 g43 : HV⦄, rec0 y0 y1 y2 y3 y9 y10 S = some p → HRun Try.prog base W0 β0 10 none [.inLoop c9, .inBlock 0, .code c23] ⟨[(Sl.hv y0), (.int .i64 y1), (.str y2), (.bool y3), g4, g5, g6, g7, g8, (Sl.hv y9), (.int .i64 y10), g11, g12, g13, g14, g15, g16, g17, g18, g19, g20, g21, g22, g23, g24, g25, g26, g27, g28, g29, g30, g31, g32, g33, g34, g35, g36, g37, g38, g39, g40, g41, g42, g43], []⟩ S (fun v S1 => v = (Sl.hv p.1) ∧ S1 = p.2)) {y0 : Sl} {y1 : Int} {y2 : (List UInt8)} {y3 : Bool} {y9 : Sl} {y10 : Int} {S : HS} {p : (Sl) × HS} {g4 g5 g6 g7 g8 g11 g12 g13 g14 g15 g16 g17 g18 g19 g20 g21 g22 g23 g24 g25 g26 g27 g28 g29 g30 g31 g32 g33 g34 g35 g36 g37 g38 g39 g40 g41 g42 g43 : HV} (h : J3 k rec0 y0 y1 y2 y3 y9 y10 S = some p) : HRun Try.prog base W0 β0 10 none [.code c22, .inLoop c9, .inBlock 0, .code c23] ⟨[(Sl.hv y0), (.int .i64 y1), (.str y2), (.bool y3), g4, g5, g6, g7, g8, (Sl.hv y9), (.int .i64 y10), g11, g12, g13, g14, g15, g16, g17, g18, g19, g20, g21, g22, g23, g24, g25, g26, g27, g28, g29, g30, g31, g32, g33, g34, g35, g36, g37, g38, g39, g40, g41, g42, g43], []⟩ S (fun v S1 => v = (Sl.hv p.1) ∧ S1 = p.2) := by
  unfold J3 at h
  refine q_region e22 rfl ?_
  refine q_op (dst := some 24) rfl (fun _ ho => ok_move ho (.tmp rfl)) ?_
  refine q_op (dst := some 25) rfl (fun _ ho => ok_ibin ho (.tmp rfl) (.int _ _) rfl) ?_
  refine q_op (dst := some 10) rfl (fun _ ho => ok_assign ho (.tmp rfl)) ?_
  refine hr_region_end ?_
  try dsimp only [HAct.put, List.set_cons_zero, List.set_cons_succ]
  try dsimp only [HAct.put, List.set_cons_zero, List.set_cons_succ]
  exact hrec0 h
def J2 (k : Nat) (rec0 : Sl → Int → (List UInt8) → Bool → Sl → Int → HS → Option ((Sl) × HS)) (y0 : Sl) (y1 : Int) (y2 : (List UInt8)) (y3 : Bool) (y9 : Sl) (y10 : Int) (y35 : Bool) (S : HS) : Option ((Sl) × HS) :=
  (if y35 = true then
  (Option.bind (HS.idx S y0 y10 2) fun p5 =>
  (Option.bind (HS.ldS S (HA.fld p5 0)) fun p6 =>
  (Option.bind (HS.ldI S .i64 (HA.fld p5 1)) fun p7 =>
  (letv (HS.lit S [[(.str p6), (.int .i64 p7)]] 2) fun p8 =>
  (Option.bind (HS.rows (p8.2) (p8.1) 2) fun p9 =>
  (Option.bind (HS.app (p8.2) y9 p9 2) fun p10 =>
  J3 k rec0 y0 y1 y2 y3 (p10.1) y10 (p10.2))))))) else
  J3 k rec0 y0 y1 y2 y3 y9 y10 S)
theorem J2_snd {k : Nat} {rec0 : Sl → Int → (List UInt8) → Bool → Sl → Int → HS → Option ((Sl) × HS)} (hrec0 : ∀ ⦃y0 : Sl⦄ ⦃y1 : Int⦄ ⦃y2 : (List UInt8)⦄ ⦃y3 : Bool⦄ ⦃y9 : Sl⦄ ⦃y10 : Int⦄ ⦃S : HS⦄ ⦃p : (Sl) × HS⦄ ⦃g4 g5 g6 g7 g8 g11 g12 g13 g14 g15 g16 g17 g18 g19 g20 g21 g22 g23 g24 g25 g26 g27 g28 g29 g30 g31 g32 g33 g34 g35 g36 g37 g38 g39 g40 g41 g42 g43 : HV⦄, rec0 y0 y1 y2 y3 y9 y10 S = some p → HRun Try.prog base W0 β0 10 none [.inLoop c9, .inBlock 0, .code c23] ⟨[(Sl.hv y0), (.int .i64 y1), (.str y2), (.bool y3), g4, g5, g6, g7, g8, (Sl.hv y9), (.int .i64 y10), g11, g12, g13, g14, g15, g16, g17, g18, g19, g20, g21, g22, g23, g24, g25, g26, g27, g28, g29, g30, g31, g32, g33, g34, g35, g36, g37, g38, g39, g40, g41, g42, g43], []⟩ S (fun v S1 => v = (Sl.hv p.1) ∧ S1 = p.2)) {y0 : Sl} {y1 : Int} {y2 : (List UInt8)} {y3 : Bool} {y9 : Sl} {y10 : Int} {y35 : Bool} {S : HS} {p : (Sl) × HS} {g4 g5 g6 g7 g8 g11 g12 g13 g14 g15 g16 g17 g18 g19 g20 g21 g22 g23 g24 g25 g26 g27 g28 g29 g30 g31 g32 g33 g34 g36 g37 g38 g39 g40 g41 g42 g43 : HV} (h : J2 k rec0 y0 y1 y2 y3 y9 y10 y35 S = some p) : HRun Try.prog base W0 β0 10 none [.code c19, .inBlock 1, .code c22, .inLoop c9, .inBlock 0, .code c23] ⟨[(Sl.hv y0), (.int .i64 y1), (.str y2), (.bool y3), g4, g5, g6, g7, g8, (Sl.hv y9), (.int .i64 y10), g11, g12, g13, g14, g15, g16, g17, g18, g19, g20, g21, g22, g23, g24, g25, g26, g27, g28, g29, g30, g31, g32, g33, g34, (.bool y35), g36, g37, g38, g39, g40, g41, g42, g43], []⟩ S (fun v S1 => v = (Sl.hv p.1) ∧ S1 = p.2) := by
  unfold J2 at h
  rcases ifc h with ⟨hc4, h⟩ | ⟨hc4, h⟩
  · refine q_cond_t e19 (.tmp rfl) hc4 ?_
    refine q_region e20 rfl ?_
    refine q_op (dst := some 36) rfl (fun _ ho => ok_move ho (.tmp rfl)) ?_
    refine q_op (dst := some 37) rfl (fun _ ho => ok_move ho (.tmp rfl)) ?_
    refine q_op (dst := some 38) rfl (fun _ ho => ok_move ho (.tmp rfl)) ?_
    obtain ⟨p5, hp5, h⟩ := bindo h
    refine q_op (dst := some 39) rfl (fun _ ho => ok_indexAddr (s := y0) ho tu22 sz29 (.tmp rfl) (.tmp rfl) hp5) ?_
    try dsimp only [HAct.put, List.set_cons_zero, List.set_cons_succ]
    obtain ⟨p6, hp6, h⟩ := bindo h
    obtain ⟨p7, hp7, h⟩ := bindo h
    refine q_op (dst := some 40) rfl (fun _ ho => ok_load_a (vs := [(.str p6), (.int .i64 p7)]) ho ia29 (.tmp rfl) rfl ⟨ldS_out hp6, ldI_out hp7, trivial⟩ (by simp)) ?_
    obtain ⟨p8, hp8, h⟩ := leto h
    refine q_op (dst := some 41) rfl (fun _ ho => ok_buildSlice_s (xs := [(.tmp 40)]) el22 ho rfl rfl (by decide) (.cons (.tmp rfl) Evs.nil) rfl rfl hp8) ?_
    obtain ⟨p9, hp9, h⟩ := bindo h
    obtain ⟨p10, hp10, h⟩ := bindo h
    refine q_op (dst := some 42) rfl (fun _ ho => ok_append (s := y9) (s1 := (p8.1)) el22 ho rfl rfl ⟨_, tu22⟩ (.tmp rfl) (.tmp rfl) hp9 hp10) ?_
    refine q_op (dst := some 9) rfl (fun _ ho => ok_assign ho (.tmp rfl)) ?_
    refine hr_region_end ?_
    try dsimp only [HAct.put, List.set_cons_zero, List.set_cons_succ]
    refine hr_inBlock ?_
    try dsimp only [HAct.put, List.set_cons_zero, List.set_cons_succ]
    exact J3_snd hrec0 h
  · refine q_cond_f e19 (.tmp rfl) (bfalse hc4) ?_
    refine q_skipc e21 ?_
    refine hr_inBlock ?_
    try dsimp only [HAct.put, List.set_cons_zero, List.set_cons_succ]
    exact J3_snd hrec0 h
def J1 (k : Nat) (rec0 : Sl → Int → (List UInt8) → Bool → Sl → Int → HS → Option ((Sl) × HS)) (y0 : Sl) (y1 : Int) (y2 : (List UInt8)) (y3 : Bool) (y9 : Sl) (y10 : Int) (y23 : Bool) (S : HS) : Option ((Sl) × HS) :=
  (if y23 = true then
  (if y3 = true then
  J2 k rec0 y0 y1 y2 y3 y9 y10 true S else
  (Option.bind (HS.idx S y0 y10 2) fun p11 =>
  (Option.bind (HS.ldS S (HA.fld p11 0)) fun p12 =>
  (Option.bind (rollcallref01_Same.f k p12 y2 S) fun p13 =>
  J2 k rec0 y0 y1 y2 y3 y9 y10 p13.1 p13.2)))) else
  some (y9, S))
theorem J1_snd {k : Nat} {rec0 : Sl → Int → (List UInt8) → Bool → Sl → Int → HS → Option ((Sl) × HS)} (hrec0 : ∀ ⦃y0 : Sl⦄ ⦃y1 : Int⦄ ⦃y2 : (List UInt8)⦄ ⦃y3 : Bool⦄ ⦃y9 : Sl⦄ ⦃y10 : Int⦄ ⦃S : HS⦄ ⦃p : (Sl) × HS⦄ ⦃g4 g5 g6 g7 g8 g11 g12 g13 g14 g15 g16 g17 g18 g19 g20 g21 g22 g23 g24 g25 g26 g27 g28 g29 g30 g31 g32 g33 g34 g35 g36 g37 g38 g39 g40 g41 g42 g43 : HV⦄, rec0 y0 y1 y2 y3 y9 y10 S = some p → HRun Try.prog base W0 β0 10 none [.inLoop c9, .inBlock 0, .code c23] ⟨[(Sl.hv y0), (.int .i64 y1), (.str y2), (.bool y3), g4, g5, g6, g7, g8, (Sl.hv y9), (.int .i64 y10), g11, g12, g13, g14, g15, g16, g17, g18, g19, g20, g21, g22, g23, g24, g25, g26, g27, g28, g29, g30, g31, g32, g33, g34, g35, g36, g37, g38, g39, g40, g41, g42, g43], []⟩ S (fun v S1 => v = (Sl.hv p.1) ∧ S1 = p.2)) {y0 : Sl} {y1 : Int} {y2 : (List UInt8)} {y3 : Bool} {y9 : Sl} {y10 : Int} {y23 : Bool} {S : HS} {p : (Sl) × HS} {g4 g5 g6 g7 g8 g11 g12 g13 g14 g15 g16 g17 g18 g19 g20 g21 g22 g24 g25 g26 g27 g28 g29 g30 g31 g32 g33 g34 g35 g36 g37 g38 g39 g40 g41 g42 g43 : HV} (h : J1 k rec0 y0 y1 y2 y3 y9 y10 y23 S = some p) : HRun Try.prog base W0 β0 10 none [.code c12, .code c15, .inLoop c9, .inBlock 0, .code c23] ⟨[(Sl.hv y0), (.int .i64 y1), (.str y2), (.bool y3), g4, g5, g6, g7, g8, (Sl.hv y9), (.int .i64 y10), g11, g12, g13, g14, g15, g16, g17, g18, g19, g20, g21, g22, (.bool y23), g24, g25, g26, g27, g28, g29, g30, g31, g32, g33, g34, g35, g36, g37, g38, g39, g40, g41, g42, g43], []⟩ S (fun v S1 => v = (Sl.hv p.1) ∧ S1 = p.2) := by
  unfold J1 at h
  rcases ifc h with ⟨hc2, h⟩ | ⟨hc2, h⟩
  · refine q_cond_t e12 (.tmp rfl) hc2 ?_
    refine q_skipc e13 ?_
    refine q_seq e15 ?_
    refine q_block e16 ?_
    refine q_seq e17 ?_
    refine q_region e18 rfl ?_
    refine q_op (dst := some 26) rfl (fun _ ho => ok_move ho (.tmp rfl)) ?_
    refine q_op (dst := some 27) rfl (fun _ ho => ok_move ho (.tmp rfl)) ?_
    rcases ifc h with ⟨hc3, h⟩ | ⟨hc3, h⟩
    · refine q_skip (dst := some 28) (t := 27) rfl rfl rfl hc3 ?_
      refine q_skip (dst := some 29) (t := 27) rfl rfl rfl hc3 ?_
      try dsimp only [HAct.put, List.set_cons_zero, List.set_cons_succ]
      refine q_skip (dst := some 30) (t := 27) rfl rfl rfl hc3 ?_
      refine q_skip (dst := some 31) (t := 27) rfl rfl rfl hc3 ?_
      refine q_skip (dst := some 32) (t := 27) rfl rfl rfl hc3 ?_
      refine q_skip (dst := some 33) (t := 27) rfl rfl rfl hc3 ?_
      try dsimp only [HAct.put, List.set_cons_zero, List.set_cons_succ]
      refine q_skip (dst := some 34) (t := 27) rfl rfl rfl hc3 ?_
      refine q_op (dst := some 35) rfl (fun _ ho => ok_pick_tt ho (.tmp rfl) hc3 (.bool _)) ?_
      refine hr_region_end ?_
      try dsimp only [HAct.put, List.set_cons_zero, List.set_cons_succ]
      try dsimp only [HAct.put, List.set_cons_zero, List.set_cons_succ]
      exact J2_snd hrec0 h
    · refine q_op_g (t := 27) (dst := some 28) rfl rfl rfl (bfalse hc3) (fun _ ho => ok_move ho (.tmp rfl)) ?_
      refine q_op_g (t := 27) (dst := some 29) rfl rfl rfl (bfalse hc3) (fun _ ho => ok_move ho (.tmp rfl)) ?_
      try dsimp only [HAct.put, List.set_cons_zero, List.set_cons_succ]
      obtain ⟨p11, hp11, h⟩ := bindo h
      refine q_op_g (t := 27) (dst := some 30) rfl rfl rfl (bfalse hc3) (fun _ ho => ok_indexAddr (s := y0) ho tu22 sz29 (.tmp rfl) (.tmp rfl) hp11) ?_
      refine q_op_g (t := 27) (dst := some 31) rfl rfl rfl (bfalse hc3) (fun _ ho => ok_fieldAddr_s ho fi29_0 (by decide) (.tmp rfl) rfl) ?_
      obtain ⟨p12, hp12, h⟩ := bindo h
      refine q_op_g (t := 27) (dst := some 32) rfl rfl rfl (bfalse hc3) (fun _ ho => ok_load_s ho sc9 (.tmp rfl) rfl (ldS_out hp12)) ?_
      refine q_op_g (t := 27) (dst := some 33) rfl rfl rfl (bfalse hc3) (fun _ ho => ok_move ho (.tmp rfl)) ?_
      try dsimp only [HAct.put, List.set_cons_zero, List.set_cons_succ]
      obtain ⟨p13, hp13, h⟩ := bindo h
      refine q_call_g (t := 27) (dst := some 34) rfl rfl rfl (bfalse hc3) (.func _) (.cons (.tmp rfl) (.cons (.tmp rfl) Evs.nil)) (HInv.static rollcallref01_Same.at_ rollcallref01_Same.body (rollcallref01_Same.snd  hp13)) ?_
      rintro _ _ ⟨rfl, rfl⟩
      refine q_op (dst := some 35) rfl (fun _ ho => ok_pick_ff ho (.tmp rfl) (bfalse hc3) (.tmp rfl)) ?_
      refine hr_region_end ?_
      try dsimp only [HAct.put, List.set_cons_zero, List.set_cons_succ]
      try dsimp only [HAct.put, List.set_cons_zero, List.set_cons_succ]
      exact J2_snd hrec0 h
  · refine q_cond_f e12 (.tmp rfl) (bfalse hc2) ?_
    refine q_exit e14 rfl ?_
    refine q_seq e23 ?_
    refine q_region e24 rfl ?_
    refine q_op (dst := some 43) rfl (fun _ ho => ok_move ho (.tmp rfl)) ?_
    refine q_op (dst := some 8) rfl (fun _ ho => ok_assign ho (.tmp rfl)) ?_
    refine hr_region_end ?_
    try dsimp only [HAct.put, List.set_cons_zero, List.set_cons_succ]
    cases h
    exact q_ret e25 at_.at_ rfl (res1 rfl rfl) ⟨rfl, rfl⟩
def L0 (k : Nat) : Nat → Sl → Int → (List UInt8) → Bool → Sl → Int → HS → Option ((Sl) × HS)
  | 0, _, _, _, _, _, _, _ => none
  | n + 1, y0, y1, y2, y3, y9, y10, S =>
    (if y10 ≥ 0 then
    J1 k (L0 k n) y0 y1 y2 y3 y9 y10 (decide ((w64 ((Sl.len y0 : Int) - y10)) ≤ y1)) S else
    J1 k (L0 k n) y0 y1 y2 y3 y9 y10 false S)
theorem L0_snd {k : Nat}  : ∀ {n : Nat} ⦃y0 : Sl⦄ ⦃y1 : Int⦄ ⦃y2 : (List UInt8)⦄ ⦃y3 : Bool⦄ ⦃y9 : Sl⦄ ⦃y10 : Int⦄ ⦃S : HS⦄ ⦃p : (Sl) × HS⦄ ⦃g4 g5 g6 g7 g8 g11 g12 g13 g14 g15 g16 g17 g18 g19 g20 g21 g22 g23 g24 g25 g26 g27 g28 g29 g30 g31 g32 g33 g34 g35 g36 g37 g38 g39 g40 g41 g42 g43 : HV⦄, L0 k n y0 y1 y2 y3 y9 y10 S = some p → HRun Try.prog base W0 β0 10 none [.inLoop c9, .inBlock 0, .code c23] ⟨[(Sl.hv y0), (.int .i64 y1), (.str y2), (.bool y3), g4, g5, g6, g7, g8, (Sl.hv y9), (.int .i64 y10), g11, g12, g13, g14, g15, g16, g17, g18, g19, g20, g21, g22, g23, g24, g25, g26, g27, g28, g29, g30, g31, g32, g33, g34, g35, g36, g37, g38, g39, g40, g41, g42, g43], []⟩ S (fun v S1 => v = (Sl.hv p.1) ∧ S1 = p.2) := by
  intro n
  induction n with
  | zero => intro _ _ _ _ _ _ _ _ _ _ _ _ _ _ _ _ _ _ _ _ _ _ _ _ _ _ _ _ _ _ _ _ _ _ _ _ _ _ _ _ _ _ _ _ _ _ h; cases h
  | succ n ih =>
    intro y0 y1 y2 y3 y9 y10 S p g4 g5 g6 g7 g8 g11 g12 g13 g14 g15 g16 g17 g18 g19 g20 g21 g22 g23 g24 g25 g26 g27 g28 g29 g30 g31 g32 g33 g34 g35 g36 g37 g38 g39 g40 g41 g42 g43 h
    simp only [L0] at h
    refine hr_inLoop ?_
    refine q_seq e9 ?_
    refine q_seq e10 ?_
    refine q_region e11 rfl ?_
    refine q_op (dst := some 14) rfl (fun _ ho => ok_move ho (.tmp rfl)) ?_
    refine q_op (dst := some 15) rfl (fun _ ho => ok_ibin ho (.tmp rfl) (.int _ _) rfl) ?_
    refine q_op (dst := some 16) rfl (fun _ ho => ok_move ho (.tmp rfl)) ?_
    rcases ifc h with ⟨hc1, h⟩ | ⟨hc1, h⟩
    · refine q_op_g (t := 16) (dst := some 17) rfl rfl rfl (decide_eq_true hc1) (fun _ ho => ok_move ho (.tmp rfl)) ?_
      try dsimp only [HAct.put, List.set_cons_zero, List.set_cons_succ]
      refine q_op_g (t := 16) (dst := some 18) rfl rfl rfl (decide_eq_true hc1) (fun _ ho => ok_len_sl (q := Sl.a y0) (n := Sl.len y0) (z := Sl.cap y0) ho rfl tu22 (.tmp rfl)) ?_
      refine q_op_g (t := 16) (dst := some 19) rfl rfl rfl (decide_eq_true hc1) (fun _ ho => ok_move ho (.tmp rfl)) ?_
      refine q_op_g (t := 16) (dst := some 20) rfl rfl rfl (decide_eq_true hc1) (fun _ ho => ok_ibin ho (.tmp rfl) (.tmp rfl) rfl) ?_
      refine q_op_g (t := 16) (dst := some 21) rfl rfl rfl (decide_eq_true hc1) (fun _ ho => ok_move ho (.tmp rfl)) ?_
      try dsimp only [HAct.put, List.set_cons_zero, List.set_cons_succ]
      refine q_op_g (t := 16) (dst := some 22) rfl rfl rfl (decide_eq_true hc1) (fun _ ho => ok_ibin ho (.tmp rfl) (.tmp rfl) rfl) ?_
      refine q_op (dst := some 23) rfl (fun _ ho => ok_pick_tt ho (.tmp rfl) (decide_eq_true hc1) (.tmp rfl)) ?_
      refine hr_region_end ?_
      try dsimp only [HAct.put, List.set_cons_zero, List.set_cons_succ]
      try dsimp only [HAct.put, List.set_cons_zero, List.set_cons_succ]
      exact J1_snd ih h
    · refine q_skip (dst := some 17) (t := 16) rfl rfl rfl (decide_eq_false hc1) ?_
      try dsimp only [HAct.put, List.set_cons_zero, List.set_cons_succ]
      refine q_skip (dst := some 18) (t := 16) rfl rfl rfl (decide_eq_false hc1) ?_
      refine q_skip (dst := some 19) (t := 16) rfl rfl rfl (decide_eq_false hc1) ?_
      refine q_skip (dst := some 20) (t := 16) rfl rfl rfl (decide_eq_false hc1) ?_
      refine q_skip (dst := some 21) (t := 16) rfl rfl rfl (decide_eq_false hc1) ?_
      try dsimp only [HAct.put, List.set_cons_zero, List.set_cons_succ]
      refine q_skip (dst := some 22) (t := 16) rfl rfl rfl (decide_eq_false hc1) ?_
      refine q_op (dst := some 23) rfl (fun _ ho => ok_pick_ff ho (.tmp rfl) (decide_eq_false hc1) (.bool _)) ?_
      refine hr_region_end ?_
      try dsimp only [HAct.put, List.set_cons_zero, List.set_cons_succ]
      try dsimp only [HAct.put, List.set_cons_zero, List.set_cons_succ]
      exact J1_snd ih h
def f (k : Nat) (x0 : Sl) (x1 : Int) (x2 : (List UInt8)) (x3 : Bool) (S : HS) : Option ((Sl) × HS) :=
  L0 k k x0 x1 x2 x3 Sl.nil (w64 ((Sl.len x0 : Int) - 1)) S
theorem snd {k : Nat} {x0 : Sl} {x1 : Int} {x2 : (List UInt8)} {x3 : Bool} {S : HS}  {p : (Sl) × HS} (h : f k x0 x1 x2 x3 S = some p) : HCall Try.prog base W0 β0 10 [(Sl.hv x0), (.int .i64 x1), (.str x2), (.bool x3)] S (fun v S1 => v = (Sl.hv p.1) ∧ S1 = p.2) := by
  unfold f at h
  refine HCall.of_run at_.at_ body ?_
  show HRun Try.prog base W0 β0 10 none [.code c0] ⟨[(Sl.hv x0), (.int .i64 x1), (.str x2), (.bool x3), .tup [], .tup [], .tup [], .tup [], .tup [], .tup [], .tup [], .tup [], .tup [], .tup [], .tup [], .tup [], .tup [], .tup [], .tup [], .tup [], .tup [], .tup [], .tup [], .tup [], .tup [], .tup [], .tup [], .tup [], .tup [], .tup [], .tup [], .tup [], .tup [], .tup [], .tup [], .tup [], .tup [], .tup [], .tup [], .tup [], .tup [], .tup [], .tup [], .tup []], []⟩ S _
  refine q_seq e0 ?_
  refine q_region e1 rfl ?_
  refine q_op (dst := some 8) rfl (fun _ ho => ok_assign ho (.const fun _ => .slNil none)) ?_
  refine hr_region_end ?_
  try dsimp only [HAct.put, List.set_cons_zero, List.set_cons_succ]
  refine q_seq e2 ?_
  refine q_region e3 rfl ?_
  refine q_op (dst := some 9) rfl (fun _ ho => ok_assign ho (.const fun _ => .slNil none)) ?_
  refine hr_region_end ?_
  try dsimp only [HAct.put, List.set_cons_zero, List.set_cons_succ]
  refine q_seq e4 ?_
  refine q_seq e5 ?_
  refine q_region e6 rfl ?_
  refine q_op (dst := some 11) rfl (fun _ ho => ok_move ho (.tmp rfl)) ?_
  refine q_op (dst := some 12) rfl (fun _ ho => ok_len_sl (q := Sl.a x0) (n := Sl.len x0) (z := Sl.cap x0) ho rfl tu22 (.tmp rfl)) ?_
  refine q_op (dst := some 13) rfl (fun _ ho => ok_ibin ho (.tmp rfl) (.int _ _) rfl) ?_
  refine q_op (dst := some 10) rfl (fun _ ho => ok_assign ho (.tmp rfl)) ?_
  refine hr_region_end ?_
  try dsimp only [HAct.put, List.set_cons_zero, List.set_cons_succ]
  refine q_block e7 ?_
  refine q_loop e8 ?_
  try dsimp only [HAct.put, List.set_cons_zero, List.set_cons_succ]
  exact L0_snd  h
end
end rollcallref13_Last
namespace rollcalllaw13_WasPlays
abbrev id : Nat := 3
theorem at_ : FnAt Try.prog 3 Try.f3 := ⟨Try.func3, by kernel_rfl⟩
noncomputable def c0 : Code := (Try.f3.body).getD .skip
noncomputable def c1 : Code := match c0 with | .seq x _ => x | _ => .skip
noncomputable def c2 : Code := match c0 with | .seq _ x => x | _ => .skip
noncomputable def c3 : Code := match c2 with | .seq x _ => x | _ => .skip
noncomputable def c4 : Code := match c3 with | .seq x _ => x | _ => .skip
noncomputable def c5 : Code := match c3 with | .seq _ x => x | _ => .skip
noncomputable def c6 : Code := match c5 with | .cond _ x _ => x | _ => .skip
noncomputable def c7 : Code := match c6 with | .seq x _ => x | _ => .skip
noncomputable def c8 : Code := match c6 with | .seq _ x => x | _ => .skip
noncomputable def c9 : Code := match c5 with | .cond _ _ x => x | _ => .skip
noncomputable def c10 : Code := match c2 with | .seq _ x => x | _ => .skip
noncomputable def c11 : Code := match c10 with | .seq x _ => x | _ => .skip
noncomputable def c12 : Code := match c11 with | .seq x _ => x | _ => .skip
noncomputable def c13 : Code := match c11 with | .seq _ x => x | _ => .skip
noncomputable def c14 : Code := match c13 with | .cond _ x _ => x | _ => .skip
noncomputable def c15 : Code := match c14 with | .seq x _ => x | _ => .skip
noncomputable def c16 : Code := match c14 with | .seq _ x => x | _ => .skip
noncomputable def c17 : Code := match c13 with | .cond _ _ x => x | _ => .skip
noncomputable def c18 : Code := match c10 with | .seq _ x => x | _ => .skip
noncomputable def c19 : Code := match c18 with | .seq x _ => x | _ => .skip
noncomputable def c20 : Code := match c18 with | .seq _ x => x | _ => .skip
noncomputable def c21 : Code := match c20 with | .seq x _ => x | _ => .skip
noncomputable def c22 : Code := match c21 with | .seq x _ => x | _ => .skip
noncomputable def c23 : Code := match c21 with | .seq _ x => x | _ => .skip
noncomputable def c24 : Code := match c23 with | .cond _ x _ => x | _ => .skip
noncomputable def c25 : Code := match c24 with | .seq x _ => x | _ => .skip
noncomputable def c26 : Code := match c24 with | .seq _ x => x | _ => .skip
noncomputable def c27 : Code := match c23 with | .cond _ _ x => x | _ => .skip
noncomputable def c28 : Code := match c20 with | .seq _ x => x | _ => .skip
noncomputable def c29 : Code := match c28 with | .seq x _ => x | _ => .skip
noncomputable def c30 : Code := match c29 with | .seq x _ => x | _ => .skip
noncomputable def c31 : Code := match c29 with | .seq _ x => x | _ => .skip
noncomputable def c32 : Code := match c31 with | .cond _ x _ => x | _ => .skip
noncomputable def c33 : Code := match c32 with | .seq x _ => x | _ => .skip
noncomputable def c34 : Code := match c32 with | .seq _ x => x | _ => .skip
noncomputable def c35 : Code := match c31 with | .cond _ _ x => x | _ => .skip
noncomputable def c36 : Code := match c28 with | .seq _ x => x | _ => .skip
noncomputable def c37 : Code := match c36 with | .seq x _ => x | _ => .skip
noncomputable def c38 : Code := match c37 with | .seq x _ => x | _ => .skip
noncomputable def c39 : Code := match c37 with | .seq _ x => x | _ => .skip
noncomputable def c40 : Code := match c39 with | .block _ x => x | _ => .skip
noncomputable def c41 : Code := match c40 with | .loop x => x | _ => .skip
noncomputable def c42 : Code := match c41 with | .seq x _ => x | _ => .skip
noncomputable def c43 : Code := match c42 with | .seq x _ => x | _ => .skip
noncomputable def c44 : Code := match c42 with | .seq _ x => x | _ => .skip
noncomputable def c45 : Code := match c44 with | .cond _ x _ => x | _ => .skip
noncomputable def c46 : Code := match c44 with | .cond _ _ x => x | _ => .skip
noncomputable def c47 : Code := match c41 with | .seq _ x => x | _ => .skip
noncomputable def c48 : Code := match c47 with | .seq x _ => x | _ => .skip
noncomputable def c49 : Code := match c48 with | .block _ x => x | _ => .skip
noncomputable def c50 : Code := match c49 with | .seq x _ => x | _ => .skip
noncomputable def c51 : Code := match c50 with | .seq x _ => x | _ => .skip
noncomputable def c52 : Code := match c50 with | .seq _ x => x | _ => .skip
noncomputable def c53 : Code := match c52 with | .cond _ x _ => x | _ => .skip
noncomputable def c54 : Code := match c53 with | .seq x _ => x | _ => .skip
noncomputable def c55 : Code := match c53 with | .seq _ x => x | _ => .skip
noncomputable def c56 : Code := match c52 with | .cond _ _ x => x | _ => .skip
noncomputable def c57 : Code := match c49 with | .seq _ x => x | _ => .skip
noncomputable def c58 : Code := match c57 with | .seq x _ => x | _ => .skip
noncomputable def c59 : Code := match c57 with | .seq _ x => x | _ => .skip
noncomputable def c60 : Code := match c59 with | .seq x _ => x | _ => .skip
noncomputable def c61 : Code := match c59 with | .seq _ x => x | _ => .skip
noncomputable def c62 : Code := match c61 with | .seq x _ => x | _ => .skip
noncomputable def c63 : Code := match c61 with | .seq _ x => x | _ => .skip
noncomputable def c64 : Code := match c63 with | .cond _ x _ => x | _ => .skip
noncomputable def c65 : Code := match c64 with | .seq x _ => x | _ => .skip
noncomputable def c66 : Code := match c64 with | .seq _ x => x | _ => .skip
noncomputable def c67 : Code := match c63 with | .cond _ _ x => x | _ => .skip
noncomputable def c68 : Code := match c47 with | .seq _ x => x | _ => .skip
noncomputable def c69 : Code := match c36 with | .seq _ x => x | _ => .skip
noncomputable def c70 : Code := match c69 with | .seq x _ => x | _ => .skip
noncomputable def c71 : Code := match c69 with | .seq _ x => x | _ => .skip
theorem e0 : c0 = .seq c1 c2 := by kernel_rfl
noncomputable def r1 : Array Oper := match c1 with | .region _ x _ => x | _ => #[]
theorem e1 : c1 = .region 0 r1 false := by kernel_rfl
theorem e2 : c2 = .seq c3 c10 := by kernel_rfl
theorem e3 : c3 = .seq c4 c5 := by kernel_rfl
noncomputable def r4 : Array Oper := match c4 with | .region _ x _ => x | _ => #[]
theorem e4 : c4 = .region 1 r4 false := by kernel_rfl
theorem e5 : c5 = .cond (.tmp 12) c6 c9 := by kernel_rfl
theorem e6 : c6 = .seq c7 c8 := by kernel_rfl
noncomputable def r7 : Array Oper := match c7 with | .region _ x _ => x | _ => #[]
theorem e7 : c7 = .region 2 r7 false := by kernel_rfl
theorem e8 : c8 = .ret := by kernel_rfl
theorem e9 : c9 = .skip := by kernel_rfl
theorem e10 : c10 = .seq c11 c18 := by kernel_rfl
theorem e11 : c11 = .seq c12 c13 := by kernel_rfl
noncomputable def r12 : Array Oper := match c12 with | .region _ x _ => x | _ => #[]
theorem e12 : c12 = .region 3 r12 false := by kernel_rfl
theorem e13 : c13 = .cond (.tmp 20) c14 c17 := by kernel_rfl
theorem e14 : c14 = .seq c15 c16 := by kernel_rfl
noncomputable def r15 : Array Oper := match c15 with | .region _ x _ => x | _ => #[]
theorem e15 : c15 = .region 4 r15 false := by kernel_rfl
theorem e16 : c16 = .ret := by kernel_rfl
theorem e17 : c17 = .skip := by kernel_rfl
theorem e18 : c18 = .seq c19 c20 := by kernel_rfl
noncomputable def r19 : Array Oper := match c19 with | .region _ x _ => x | _ => #[]
theorem e19 : c19 = .region 5 r19 false := by kernel_rfl
theorem e20 : c20 = .seq c21 c28 := by kernel_rfl
theorem e21 : c21 = .seq c22 c23 := by kernel_rfl
noncomputable def r22 : Array Oper := match c22 with | .region _ x _ => x | _ => #[]
theorem e22 : c22 = .region 6 r22 false := by kernel_rfl
theorem e23 : c23 = .cond (.tmp 31) c24 c27 := by kernel_rfl
theorem e24 : c24 = .seq c25 c26 := by kernel_rfl
noncomputable def r25 : Array Oper := match c25 with | .region _ x _ => x | _ => #[]
theorem e25 : c25 = .region 7 r25 false := by kernel_rfl
theorem e26 : c26 = .ret := by kernel_rfl
theorem e27 : c27 = .skip := by kernel_rfl
theorem e28 : c28 = .seq c29 c36 := by kernel_rfl
theorem e29 : c29 = .seq c30 c31 := by kernel_rfl
noncomputable def r30 : Array Oper := match c30 with | .region _ x _ => x | _ => #[]
theorem e30 : c30 = .region 8 r30 false := by kernel_rfl
theorem e31 : c31 = .cond (.tmp 39) c32 c35 := by kernel_rfl
theorem e32 : c32 = .seq c33 c34 := by kernel_rfl
noncomputable def r33 : Array Oper := match c33 with | .region _ x _ => x | _ => #[]
theorem e33 : c33 = .region 9 r33 false := by kernel_rfl
theorem e34 : c34 = .ret := by kernel_rfl
theorem e35 : c35 = .skip := by kernel_rfl
theorem e36 : c36 = .seq c37 c69 := by kernel_rfl
theorem e37 : c37 = .seq c38 c39 := by kernel_rfl
noncomputable def r38 : Array Oper := match c38 with | .region _ x _ => x | _ => #[]
theorem e38 : c38 = .region 10 r38 false := by kernel_rfl
theorem e39 : c39 = .block 0 c40 := by kernel_rfl
theorem e40 : c40 = .loop c41 := by kernel_rfl
theorem e41 : c41 = .seq c42 c47 := by kernel_rfl
theorem e42 : c42 = .seq c43 c44 := by kernel_rfl
noncomputable def r43 : Array Oper := match c43 with | .region _ x _ => x | _ => #[]
theorem e43 : c43 = .region 11 r43 false := by kernel_rfl
theorem e44 : c44 = .cond (.tmp 43) c45 c46 := by kernel_rfl
theorem e45 : c45 = .skip := by kernel_rfl
theorem e46 : c46 = .exit 0 := by kernel_rfl
theorem e47 : c47 = .seq c48 c68 := by kernel_rfl
theorem e48 : c48 = .block 1 c49 := by kernel_rfl
theorem e49 : c49 = .seq c50 c57 := by kernel_rfl
theorem e50 : c50 = .seq c51 c52 := by kernel_rfl
noncomputable def r51 : Array Oper := match c51 with | .region _ x _ => x | _ => #[]
theorem e51 : c51 = .region 13 r51 false := by kernel_rfl
theorem e52 : c52 = .cond (.tmp 52) c53 c56 := by kernel_rfl
theorem e53 : c53 = .seq c54 c55 := by kernel_rfl
noncomputable def r54 : Array Oper := match c54 with | .region _ x _ => x | _ => #[]
theorem e54 : c54 = .region 14 r54 false := by kernel_rfl
theorem e55 : c55 = .ret := by kernel_rfl
theorem e56 : c56 = .skip := by kernel_rfl
theorem e57 : c57 = .seq c58 c59 := by kernel_rfl
noncomputable def r58 : Array Oper := match c58 with | .region _ x _ => x | _ => #[]
theorem e58 : c58 = .region 15 r58 true := by kernel_rfl
theorem e59 : c59 = .seq c60 c61 := by kernel_rfl
noncomputable def r60 : Array Oper := match c60 with | .region _ x _ => x | _ => #[]
theorem e60 : c60 = .region 16 r60 false := by kernel_rfl
theorem e61 : c61 = .seq c62 c63 := by kernel_rfl
noncomputable def r62 : Array Oper := match c62 with | .region _ x _ => x | _ => #[]
theorem e62 : c62 = .region 17 r62 false := by kernel_rfl
theorem e63 : c63 = .cond (.tmp 93) c64 c67 := by kernel_rfl
theorem e64 : c64 = .seq c65 c66 := by kernel_rfl
noncomputable def r65 : Array Oper := match c65 with | .region _ x _ => x | _ => #[]
theorem e65 : c65 = .region 18 r65 false := by kernel_rfl
theorem e66 : c66 = .ret := by kernel_rfl
theorem e67 : c67 = .skip := by kernel_rfl
noncomputable def r68 : Array Oper := match c68 with | .region _ x _ => x | _ => #[]
theorem e68 : c68 = .region 12 r68 false := by kernel_rfl
theorem e69 : c69 = .seq c70 c71 := by kernel_rfl
noncomputable def r70 : Array Oper := match c70 with | .region _ x _ => x | _ => #[]
theorem e70 : c70 = .region 19 r70 false := by kernel_rfl
theorem e71 : c71 = .ret := by kernel_rfl
theorem body : Try.f3.body = some c0 := by kernel_rfl
section
variable {base : Nat} {W0 : World} {β0 : Bt}
def J2 (D : Dp) (H : Hd) (k : Nat) (y37 : Bool) (S : HS) : Option ((Bool) × HS) :=
  some (y37, S)
theorem J2_snd {D : Dp} {H : Hd} {k : Nat} (hD : DSound Try.prog base W0 D) (hH : HSound Try.prog base W0 β0 H)  {y37 : Bool} {S : HS} {p : (Bool) × HS} {g0 g1 g2 g3 g4 g5 g6 g7 g8 g9 g10 g11 g12 g13 g14 g15 g16 g17 g18 g19 g20 g21 g22 g23 g24 g25 g26 g27 g28 g29 g30 g31 g32 g33 g34 g35 g36 g38 g39 g40 g41 g42 g43 g44 g45 g46 g47 g48 g49 g50 g51 g52 g53 g54 g55 g56 g57 g58 g59 g60 g61 g62 g63 g64 g65 g66 g67 g68 g69 g70 g71 g72 g73 g74 g75 g76 g77 g78 g79 g80 g81 g82 g83 g84 g85 g86 g87 g88 g89 g90 g91 g92 g93 : HV} (h : J2 D H k y37 S = some p) : HRun Try.prog base W0 β0 3 none [.inRegion r25 [6], .code c26, .code c28] ⟨[g0, g1, g2, g3, g4, g5, g6, g7, g8, g9, g10, g11, g12, g13, g14, g15, g16, g17, g18, g19, g20, g21, g22, g23, g24, g25, g26, g27, g28, g29, g30, g31, g32, g33, g34, g35, g36, (.bool y37), g38, g39, g40, g41, g42, g43, g44, g45, g46, g47, g48, g49, g50, g51, g52, g53, g54, g55, g56, g57, g58, g59, g60, g61, g62, g63, g64, g65, g66, g67, g68, g69, g70, g71, g72, g73, g74, g75, g76, g77, g78, g79, g80, g81, g82, g83, g84, g85, g86, g87, g88, g89, g90, g91, g92, g93], []⟩ S (fun v S1 => v = (.bool p.1) ∧ S1 = p.2) := by
  unfold J2 at h
  refine q_op (dst := some 6) rfl (fun _ ho => ok_assign ho (.tmp rfl)) ?_
  refine hr_region_end ?_
  try dsimp only [HAct.put, List.set_cons_zero, List.set_cons_succ]
  cases h
  exact q_ret e26 at_.at_ rfl (res1 rfl rfl) ⟨rfl, rfl⟩
def J5 (D : Dp) (H : Hd) (k : Nat) (rec0 : Int → Sl → (List UInt8) → (Option HA) → Int → HS → Option ((Bool) × HS)) (y0 : Int) (y1 : Sl) (y2 : (List UInt8)) (y7 : (Option HA)) (y9 : Int) (y93 : Bool) (S : HS) : Option ((Bool) × HS) :=
  (if y93 = true then
  some (false, S) else
  rec0 y0 y1 y2 y7 (w64 (y9 + 1)) S)
theorem J5_snd {D : Dp} {H : Hd} {k : Nat} {rec0 : Int → Sl → (List UInt8) → (Option HA) → Int → HS → Option ((Bool) × HS)} (hD : DSound Try.prog base W0 D) (hH : HSound Try.prog base W0 β0 H) (hrec0 : ∀ ⦃y0 : Int⦄ ⦃y1 : Sl⦄ ⦃y2 : (List UInt8)⦄ ⦃y7 : (Option HA)⦄ ⦃y9 : Int⦄ ⦃S : HS⦄ ⦃p : (Bool) × HS⦄ ⦃g3 g4 g5 g6 g8 g10 g11 g12 g13 g14 g15 g16 g17 g18 g19 g20 g21 g22 g23 g24 g25 g26 g27 g28 g29 g30 g31 g32 g33 g34 g35 g36 g37 g38 g39 g40 g41 g42 g43 g44 g45 g46 g47 g48 g49 g50 g51 g52 g53 g54 g55 g56 g57 g58 g59 g60 g61 g62 g63 g64 g65 g66 g67 g68 g69 g70 g71 g72 g73 g74 g75 g76 g77 g78 g79 g80 g81 g82 g83 g84 g85 g86 g87 g88 g89 g90 g91 g92 g93 : HV⦄, rec0 y0 y1 y2 y7 y9 S = some p → HRun Try.prog base W0 β0 3 none [.inLoop c41, .inBlock 0, .code c69] ⟨[(.int .i64 y0), (Sl.hv y1), (.str y2), g3, g4, g5, g6, (.ptr y7), g8, (.int .i64 y9), g10, g11, g12, g13, g14, g15, g16, g17, g18, g19, g20, g21, g22, g23, g24, g25, g26, g27, g28, g29, g30, g31, g32, g33, g34, g35, g36, g37, g38, g39, g40, g41, g42, g43, g44, g45, g46, g47, g48, g49, g50, g51, g52, g53, g54, g55, g56, g57, g58, g59, g60, g61, g62, g63, g64, g65, g66, g67, g68, g69, g70, g71, g72, g73, g74, g75, g76, g77, g78, g79, g80, g81, g82, g83, g84, g85, g86, g87, g88, g89, g90, g91, g92, g93], []⟩ S (fun v S1 => v = (.bool p.1) ∧ S1 = p.2)) {y0 : Int} {y1 : Sl} {y2 : (List UInt8)} {y7 : (Option HA)} {y9 : Int} {y93 : Bool} {S : HS} {p : (Bool) × HS} {g3 g4 g5 g6 g8 g10 g11 g12 g13 g14 g15 g16 g17 g18 g19 g20 g21 g22 g23 g24 g25 g26 g27 g28 g29 g30 g31 g32 g33 g34 g35 g36 g37 g38 g39 g40 g41 g42 g43 g44 g45 g46 g47 g48 g49 g50 g51 g52 g53 g54 g55 g56 g57 g58 g59 g60 g61 g62 g63 g64 g65 g66 g67 g68 g69 g70 g71 g72 g73 g74 g75 g76 g77 g78 g79 g80 g81 g82 g83 g84 g85 g86 g87 g88 g89 g90 g91 g92 : HV} (h : J5 D H k rec0 y0 y1 y2 y7 y9 y93 S = some p) : HRun Try.prog base W0 β0 3 none [.code c63, .inBlock 1, .code c68, .inLoop c41, .inBlock 0, .code c69] ⟨[(.int .i64 y0), (Sl.hv y1), (.str y2), g3, g4, g5, g6, (.ptr y7), g8, (.int .i64 y9), g10, g11, g12, g13, g14, g15, g16, g17, g18, g19, g20, g21, g22, g23, g24, g25, g26, g27, g28, g29, g30, g31, g32, g33, g34, g35, g36, g37, g38, g39, g40, g41, g42, g43, g44, g45, g46, g47, g48, g49, g50, g51, g52, g53, g54, g55, g56, g57, g58, g59, g60, g61, g62, g63, g64, g65, g66, g67, g68, g69, g70, g71, g72, g73, g74, g75, g76, g77, g78, g79, g80, g81, g82, g83, g84, g85, g86, g87, g88, g89, g90, g91, g92, (.bool y93)], []⟩ S (fun v S1 => v = (.bool p.1) ∧ S1 = p.2) := by
  unfold J5 at h
  rcases ifc h with ⟨hc23, h⟩ | ⟨hc23, h⟩
  · refine q_cond_t e63 (.tmp rfl) hc23 ?_
    refine q_seq e64 ?_
    refine q_region e65 rfl ?_
    refine q_op (dst := some 6) rfl (fun _ ho => ok_assign ho (.bool _)) ?_
    refine hr_region_end ?_
    try dsimp only [HAct.put, List.set_cons_zero, List.set_cons_succ]
    cases h
    exact q_ret e66 at_.at_ rfl (res1 rfl rfl) ⟨rfl, rfl⟩
  · refine q_cond_f e63 (.tmp rfl) (bfalse hc23) ?_
    refine q_skipc e67 ?_
    refine hr_inBlock ?_
    refine q_region e68 rfl ?_
    refine q_op (dst := some 44) rfl (fun _ ho => ok_move ho (.tmp rfl)) ?_
    refine q_op (dst := some 45) rfl (fun _ ho => ok_ibin ho (.tmp rfl) (.int _ _) rfl) ?_
    refine q_op (dst := some 9) rfl (fun _ ho => ok_assign ho (.tmp rfl)) ?_
    refine hr_region_end ?_
    try dsimp only [HAct.put, List.set_cons_zero, List.set_cons_succ]
    try dsimp only [HAct.put, List.set_cons_zero, List.set_cons_succ]
    exact hrec0 h
def J4 (D : Dp) (H : Hd) (k : Nat) (rec0 : Int → Sl → (List UInt8) → (Option HA) → Int → HS → Option ((Bool) × HS)) (y0 : Int) (y1 : Sl) (y2 : (List UInt8)) (y7 : (Option HA)) (y9 : Int) (y10 : Sl) (y83 : Bool) (S : HS) : Option ((Bool) × HS) :=
  (if y83 = true then
  J5 D H k rec0 y0 y1 y2 y7 y9 true S else
  (Option.bind (rollcallref13_Last.f k y10 y0 y2 false S) fun p24 =>
  (Option.bind (rollcalllaw13_same.f D H k y7 p24.1 y2 false p24.2) fun p25 =>
  J5 D H k rec0 y0 y1 y2 y7 y9 (!p25.1) p25.2)))
theorem J4_snd {D : Dp} {H : Hd} {k : Nat} {rec0 : Int → Sl → (List UInt8) → (Option HA) → Int → HS → Option ((Bool) × HS)} (hD : DSound Try.prog base W0 D) (hH : HSound Try.prog base W0 β0 H) (hrec0 : ∀ ⦃y0 : Int⦄ ⦃y1 : Sl⦄ ⦃y2 : (List UInt8)⦄ ⦃y7 : (Option HA)⦄ ⦃y9 : Int⦄ ⦃S : HS⦄ ⦃p : (Bool) × HS⦄ ⦃g3 g4 g5 g6 g8 g10 g11 g12 g13 g14 g15 g16 g17 g18 g19 g20 g21 g22 g23 g24 g25 g26 g27 g28 g29 g30 g31 g32 g33 g34 g35 g36 g37 g38 g39 g40 g41 g42 g43 g44 g45 g46 g47 g48 g49 g50 g51 g52 g53 g54 g55 g56 g57 g58 g59 g60 g61 g62 g63 g64 g65 g66 g67 g68 g69 g70 g71 g72 g73 g74 g75 g76 g77 g78 g79 g80 g81 g82 g83 g84 g85 g86 g87 g88 g89 g90 g91 g92 g93 : HV⦄, rec0 y0 y1 y2 y7 y9 S = some p → HRun Try.prog base W0 β0 3 none [.inLoop c41, .inBlock 0, .code c69] ⟨[(.int .i64 y0), (Sl.hv y1), (.str y2), g3, g4, g5, g6, (.ptr y7), g8, (.int .i64 y9), g10, g11, g12, g13, g14, g15, g16, g17, g18, g19, g20, g21, g22, g23, g24, g25, g26, g27, g28, g29, g30, g31, g32, g33, g34, g35, g36, g37, g38, g39, g40, g41, g42, g43, g44, g45, g46, g47, g48, g49, g50, g51, g52, g53, g54, g55, g56, g57, g58, g59, g60, g61, g62, g63, g64, g65, g66, g67, g68, g69, g70, g71, g72, g73, g74, g75, g76, g77, g78, g79, g80, g81, g82, g83, g84, g85, g86, g87, g88, g89, g90, g91, g92, g93], []⟩ S (fun v S1 => v = (.bool p.1) ∧ S1 = p.2)) {y0 : Int} {y1 : Sl} {y2 : (List UInt8)} {y7 : (Option HA)} {y9 : Int} {y10 : Sl} {y83 : Bool} {S : HS} {p : (Bool) × HS} {g3 g4 g5 g6 g8 g11 g12 g13 g14 g15 g16 g17 g18 g19 g20 g21 g22 g23 g24 g25 g26 g27 g28 g29 g30 g31 g32 g33 g34 g35 g36 g37 g38 g39 g40 g41 g42 g43 g44 g45 g46 g47 g48 g49 g50 g51 g52 g53 g54 g55 g56 g57 g58 g59 g60 g61 g62 g63 g64 g65 g66 g67 g68 g69 g70 g71 g72 g73 g74 g75 g76 g77 g78 g79 g80 g81 g82 g84 g85 g86 g87 g88 g89 g90 g91 g92 g93 : HV} (h : J4 D H k rec0 y0 y1 y2 y7 y9 y10 y83 S = some p) : HRun Try.prog base W0 β0 3 none [.inRegion r62 [15, 16, 17, 18, 19, 20, 21, 22, 23, 24], .code c63, .inBlock 1, .code c68, .inLoop c41, .inBlock 0, .code c69] ⟨[(.int .i64 y0), (Sl.hv y1), (.str y2), g3, g4, g5, g6, (.ptr y7), g8, (.int .i64 y9), (Sl.hv y10), g11, g12, g13, g14, g15, g16, g17, g18, g19, g20, g21, g22, g23, g24, g25, g26, g27, g28, g29, g30, g31, g32, g33, g34, g35, g36, g37, g38, g39, g40, g41, g42, g43, g44, g45, g46, g47, g48, g49, g50, g51, g52, g53, g54, g55, g56, g57, g58, g59, g60, g61, g62, g63, g64, g65, g66, g67, g68, g69, g70, g71, g72, g73, g74, g75, g76, g77, g78, g79, g80, g81, g82, (.bool y83), g84, g85, g86, g87, g88, g89, g90, g91, g92, g93], []⟩ S (fun v S1 => v = (.bool p.1) ∧ S1 = p.2) := by
  unfold J4 at h
  refine q_op (dst := some 84) rfl (fun _ ho => ok_move ho (.tmp rfl)) ?_
  try dsimp only [HAct.put, List.set_cons_zero, List.set_cons_succ]
  rcases ifc h with ⟨hc22, h⟩ | ⟨hc22, h⟩
  · refine q_skip (dst := some 85) (t := 84) rfl rfl rfl hc22 ?_
    refine q_skip (dst := some 86) (t := 84) rfl rfl rfl hc22 ?_
    refine q_skip (dst := some 87) (t := 84) rfl rfl rfl hc22 ?_
    refine q_skip (dst := some 88) (t := 84) rfl rfl rfl hc22 ?_
    try dsimp only [HAct.put, List.set_cons_zero, List.set_cons_succ]
    refine q_skip (dst := some 89) (t := 84) rfl rfl rfl hc22 ?_
    refine q_skip (dst := some 90) (t := 84) rfl rfl rfl hc22 ?_
    refine q_skip (dst := some 91) (t := 84) rfl rfl rfl hc22 ?_
    refine q_skip (dst := some 92) (t := 84) rfl rfl rfl hc22 ?_
    try dsimp only [HAct.put, List.set_cons_zero, List.set_cons_succ]
    refine q_op (dst := some 93) rfl (fun _ ho => ok_pick_tt ho (.tmp rfl) hc22 (.bool _)) ?_
    refine hr_region_end ?_
    try dsimp only [HAct.put, List.set_cons_zero, List.set_cons_succ]
    try dsimp only [HAct.put, List.set_cons_zero, List.set_cons_succ]
    exact J5_snd hD hH hrec0 h
  · refine q_op_g (t := 84) (dst := some 85) rfl rfl rfl (bfalse hc22) (fun _ ho => ok_move ho (.tmp rfl)) ?_
    refine q_op_g (t := 84) (dst := some 86) rfl rfl rfl (bfalse hc22) (fun _ ho => ok_move ho (.tmp rfl)) ?_
    refine q_op_g (t := 84) (dst := some 87) rfl rfl rfl (bfalse hc22) (fun _ ho => ok_move ho (.tmp rfl)) ?_
    refine q_op_g (t := 84) (dst := some 88) rfl rfl rfl (bfalse hc22) (fun _ ho => ok_move ho (.tmp rfl)) ?_
    try dsimp only [HAct.put, List.set_cons_zero, List.set_cons_succ]
    obtain ⟨p24, hp24, h⟩ := bindo h
    refine q_call_g (t := 84) (dst := some 89) rfl rfl rfl (bfalse hc22) (.func _) (.cons (.tmp rfl) (.cons (.tmp rfl) (.cons (.tmp rfl) (.cons (.bool _) Evs.nil)))) (HInv.static rollcallref13_Last.at_ rollcallref13_Last.body (rollcallref13_Last.snd  hp24)) ?_
    rintro _ _ ⟨rfl, rfl⟩
    refine q_op_g (t := 84) (dst := some 90) rfl rfl rfl (bfalse hc22) (fun _ ho => ok_move ho (.tmp rfl)) ?_
    obtain ⟨p25, hp25, h⟩ := bindo h
    refine q_call_g (t := 84) (dst := some 91) rfl rfl rfl (bfalse hc22) (.func _) (.cons (.tmp rfl) (.cons (.tmp rfl) (.cons (.tmp rfl) (.cons (.bool _) Evs.nil)))) (HInv.static rollcalllaw13_same.at_ rollcalllaw13_same.body (rollcalllaw13_same.snd hD hH hp25)) ?_
    rintro _ _ ⟨rfl, rfl⟩
    refine q_op_g (t := 84) (dst := some 92) rfl rfl rfl (bfalse hc22) (fun _ ho => ok_not ho (.tmp rfl)) ?_
    try dsimp only [HAct.put, List.set_cons_zero, List.set_cons_succ]
    refine q_op (dst := some 93) rfl (fun _ ho => ok_pick_ff ho (.tmp rfl) (bfalse hc22) (.tmp rfl)) ?_
    refine hr_region_end ?_
    try dsimp only [HAct.put, List.set_cons_zero, List.set_cons_succ]
    try dsimp only [HAct.put, List.set_cons_zero, List.set_cons_succ]
    exact J5_snd hD hH hrec0 h
def L3 (D : Dp) (H : Hd) (k : Nat) : Nat → Int → Sl → (List UInt8) → (Option HA) → Int → HS → Option ((Bool) × HS)
  | 0, _, _, _, _, _, _ => none
  | n + 1, y0, y1, y2, y7, y9, S =>
    (if y9 < (Sl.len y1 : Int) then
    (Option.bind (HS.idx S y1 y9 2) fun p11 =>
    (Option.bind (HS.ldS S (HA.fld p11 0)) fun p12 =>
    (if (List.length p12 : Int) > 30 then
    some (true, S) else
    (Option.bind (HS.idx S y1 y9 2) fun p14 =>
    (Option.bind (HS.ldS S (HA.fld p14 0)) fun p15 =>
    (Option.bind (HS.idx S y1 y9 2) fun p16 =>
    (Option.bind (HS.ldI S .i64 (HA.fld p16 1)) fun p17 =>
    (Option.bind (was_Past_int_Put.f y7 p15 p17 S) fun p18 =>
    (Option.bind (HS.cut p18.2 y1 0 (w64 (y9 + 1)) 2) fun p19 =>
    (Option.bind (was_Past_int_Len.f y7 p18.2) fun p20 =>
    (if (!decide (p20.1 = (mn (w64 (y9 + 1)) y0))) = true then
    J4 D H k (L3 D H k n) y0 y1 y2 y7 y9 p19 true p20.2 else
    (Option.bind (rollcallref13_Last.f k p19 y0 ([] : List UInt8) true p20.2) fun p26 =>
    (Option.bind (rollcalllaw13_same.f D H k y7 p26.1 ([] : List UInt8) true p26.2) fun p27 =>
    J4 D H k (L3 D H k n) y0 y1 y2 y7 y9 p19 (!p27.1) p27.2))))))))))))) else
    some (true, S))
theorem L3_snd {D : Dp} {H : Hd} {k : Nat} (hD : DSound Try.prog base W0 D) (hH : HSound Try.prog base W0 β0 H)  : ∀ {n : Nat} ⦃y0 : Int⦄ ⦃y1 : Sl⦄ ⦃y2 : (List UInt8)⦄ ⦃y7 : (Option HA)⦄ ⦃y9 : Int⦄ ⦃S : HS⦄ ⦃p : (Bool) × HS⦄ ⦃g3 g4 g5 g6 g8 g10 g11 g12 g13 g14 g15 g16 g17 g18 g19 g20 g21 g22 g23 g24 g25 g26 g27 g28 g29 g30 g31 g32 g33 g34 g35 g36 g37 g38 g39 g40 g41 g42 g43 g44 g45 g46 g47 g48 g49 g50 g51 g52 g53 g54 g55 g56 g57 g58 g59 g60 g61 g62 g63 g64 g65 g66 g67 g68 g69 g70 g71 g72 g73 g74 g75 g76 g77 g78 g79 g80 g81 g82 g83 g84 g85 g86 g87 g88 g89 g90 g91 g92 g93 : HV⦄, L3 D H k n y0 y1 y2 y7 y9 S = some p → HRun Try.prog base W0 β0 3 none [.inLoop c41, .inBlock 0, .code c69] ⟨[(.int .i64 y0), (Sl.hv y1), (.str y2), g3, g4, g5, g6, (.ptr y7), g8, (.int .i64 y9), g10, g11, g12, g13, g14, g15, g16, g17, g18, g19, g20, g21, g22, g23, g24, g25, g26, g27, g28, g29, g30, g31, g32, g33, g34, g35, g36, g37, g38, g39, g40, g41, g42, g43, g44, g45, g46, g47, g48, g49, g50, g51, g52, g53, g54, g55, g56, g57, g58, g59, g60, g61, g62, g63, g64, g65, g66, g67, g68, g69, g70, g71, g72, g73, g74, g75, g76, g77, g78, g79, g80, g81, g82, g83, g84, g85, g86, g87, g88, g89, g90, g91, g92, g93], []⟩ S (fun v S1 => v = (.bool p.1) ∧ S1 = p.2) := by
  intro n
  induction n with
  | zero => intro _ _ _ _ _ _ _ _ _ _ _ _ _ _ _ _ _ _ _ _ _ _ _ _ _ _ _ _ _ _ _ _ _ _ _ _ _ _ _ _ _ _ _ _ _ _ _ _ _ _ _ _ _ _ _ _ _ _ _ _ _ _ _ _ _ _ _ _ _ _ _ _ _ _ _ _ _ _ _ _ _ _ _ _ _ _ _ _ _ _ _ _ _ _ _ _ h; cases h
  | succ n ih =>
    intro y0 y1 y2 y7 y9 S p g3 g4 g5 g6 g8 g10 g11 g12 g13 g14 g15 g16 g17 g18 g19 g20 g21 g22 g23 g24 g25 g26 g27 g28 g29 g30 g31 g32 g33 g34 g35 g36 g37 g38 g39 g40 g41 g42 g43 g44 g45 g46 g47 g48 g49 g50 g51 g52 g53 g54 g55 g56 g57 g58 g59 g60 g61 g62 g63 g64 g65 g66 g67 g68 g69 g70 g71 g72 g73 g74 g75 g76 g77 g78 g79 g80 g81 g82 g83 g84 g85 g86 g87 g88 g89 g90 g91 g92 g93 h
    simp only [L3] at h
    refine hr_inLoop ?_
    refine q_seq e41 ?_
    refine q_seq e42 ?_
    refine q_region e43 rfl ?_
    refine q_op (dst := some 40) rfl (fun _ ho => ok_move ho (.tmp rfl)) ?_
    refine q_op (dst := some 41) rfl (fun _ ho => ok_move ho (.tmp rfl)) ?_
    refine q_op (dst := some 42) rfl (fun _ ho => ok_len_sl (q := Sl.a y1) (n := Sl.len y1) (z := Sl.cap y1) ho rfl tu22 (.tmp rfl)) ?_
    refine q_op (dst := some 43) rfl (fun _ ho => ok_ibin ho (.tmp rfl) (.tmp rfl) rfl) ?_
    refine hr_region_end ?_
    try dsimp only [HAct.put, List.set_cons_zero, List.set_cons_succ]
    rcases ifc h with ⟨hc10, h⟩ | ⟨hc10, h⟩
    · refine q_cond_t e44 (.tmp rfl) (decide_eq_true hc10) ?_
      refine q_skipc e45 ?_
      refine q_seq e47 ?_
      refine q_block e48 ?_
      refine q_seq e49 ?_
      refine q_seq e50 ?_
      refine q_region e51 rfl ?_
      refine q_op (dst := some 46) rfl (fun _ ho => ok_move ho (.tmp rfl)) ?_
      refine q_op (dst := some 47) rfl (fun _ ho => ok_move ho (.tmp rfl)) ?_
      obtain ⟨p11, hp11, h⟩ := bindo h
      refine q_op (dst := some 48) rfl (fun _ ho => ok_indexAddr (s := y1) ho tu22 sz29 (.tmp rfl) (.tmp rfl) hp11) ?_
      refine q_op (dst := some 49) rfl (fun _ ho => ok_fieldAddr_s ho fi29_0 (by decide) (.tmp rfl) rfl) ?_
      try dsimp only [HAct.put, List.set_cons_zero, List.set_cons_succ]
      obtain ⟨p12, hp12, h⟩ := bindo h
      refine q_op (dst := some 50) rfl (fun _ ho => ok_load_s ho sc9 (.tmp rfl) rfl (ldS_out hp12)) ?_
      refine q_op (dst := some 51) rfl (fun _ ho => ok_len_str ho rfl tu9 (.tmp rfl)) ?_
      refine q_op (dst := some 52) rfl (fun _ ho => ok_ibin ho (.tmp rfl) (.int _ _) rfl) ?_
      refine hr_region_end ?_
      try dsimp only [HAct.put, List.set_cons_zero, List.set_cons_succ]
      rcases ifc h with ⟨hc13, h⟩ | ⟨hc13, h⟩
      · refine q_cond_t e52 (.tmp rfl) (decide_eq_true hc13) ?_
        refine q_seq e53 ?_
        refine q_region e54 rfl ?_
        refine q_op (dst := some 6) rfl (fun _ ho => ok_assign ho (.bool _)) ?_
        refine hr_region_end ?_
        try dsimp only [HAct.put, List.set_cons_zero, List.set_cons_succ]
        cases h
        exact q_ret e55 at_.at_ rfl (res1 rfl rfl) ⟨rfl, rfl⟩
      · refine q_cond_f e52 (.tmp rfl) (decide_eq_false hc13) ?_
        refine q_skipc e56 ?_
        refine q_seq e57 ?_
        refine x_start (cls := [0, 0, 0, 1, 0, 1, 0, 0, 1, 0, 1, 2]) (rk := [0, 1, 2, 3, 4, 5, 6, 7, 8, 9, 10, 11]) e58 (by kernel_rfl) ?_
        refine x_go (f_op (dst := some 53) (ts := [7]) rfl (by intro _ _ h; cases h) (by kernel_rfl) (fun _ _ ho => ok_move ho (.tmp rfl))) rfl ?_
        refine x_go (f_op (dst := some 54) (ts := [1]) rfl (by intro _ _ h; cases h) (by kernel_rfl) (fun _ _ ho => ok_move ho (.tmp rfl))) rfl ?_
        refine x_go (f_op (dst := some 55) (ts := [9]) rfl (by intro _ _ h; cases h) (by kernel_rfl) (fun _ _ ho => ok_move ho (.tmp rfl))) rfl ?_
        obtain ⟨p14, hp14, h⟩ := bindo h
        refine x_go (r_op (dst := some 56) (ts := [54, 55]) rfl (by intro _ _ h; cases h) (by kernel_rfl) (fun _ ho => ok_indexAddr (s := y1) ho tu22 sz29 (.tmp rfl) (.tmp rfl) hp14)) rfl ?_
        try dsimp only [HAct.put, List.set_cons_zero, List.set_cons_succ]
        refine x_go (f_op (dst := some 57) (ts := [56]) rfl (by intro _ _ h; cases h) (by kernel_rfl) (fun _ _ ho => ok_fieldAddr_s ho fi29_0 (by decide) (.tmp rfl) rfl)) rfl ?_
        obtain ⟨p15, hp15, h⟩ := bindo h
        refine x_go (r_op (dst := some 58) (ts := [57]) rfl (by intro _ _ h; cases h) (by kernel_rfl) (fun _ ho => ok_load_s ho sc9 (.tmp rfl) rfl (ldS_out hp15))) rfl ?_
        refine x_go (f_op (dst := some 59) (ts := [1]) rfl (by intro _ _ h; cases h) (by kernel_rfl) (fun _ _ ho => ok_move ho (.tmp rfl))) rfl ?_
        refine x_go (f_op (dst := some 60) (ts := [9]) rfl (by intro _ _ h; cases h) (by kernel_rfl) (fun _ _ ho => ok_move ho (.tmp rfl))) rfl ?_
        try dsimp only [HAct.put, List.set_cons_zero, List.set_cons_succ]
        obtain ⟨p16, hp16, h⟩ := bindo h
        refine x_go (r_op (dst := some 61) (ts := [59, 60]) rfl (by intro _ _ h; cases h) (by kernel_rfl) (fun _ ho => ok_indexAddr (s := y1) ho tu22 sz29 (.tmp rfl) (.tmp rfl) hp16)) rfl ?_
        refine x_go (f_op (dst := some 62) (ts := [61]) rfl (by intro _ _ h; cases h) (by kernel_rfl) (fun _ _ ho => ok_fieldAddr_s ho fi29_1 (by decide) (.tmp rfl) rfl)) rfl ?_
        obtain ⟨p17, hp17, h⟩ := bindo h
        refine x_go (r_op (dst := some 63) (ts := [62]) rfl (by intro _ _ h; cases h) (by kernel_rfl) (fun _ ho => ok_load_s ho sc3 (.tmp rfl) rfl (ldI_out hp17))) rfl ?_
        obtain ⟨p18, hp18, h⟩ := bindo h
        refine x_go (e_call (dst := some 64) (ts := [53, 58, 63]) rfl (by kernel_rfl) (.func _) (.cons (.tmp rfl) (.cons (.tmp rfl) (.cons (.tmp rfl) Evs.nil))) (HInv.static was_Past_int_Put.at_ was_Past_int_Put.body (was_Past_int_Put.snd  hp18))) rfl ?_
        refine x_rest rfl ?_
        refine hr_region_end ?_
        try dsimp only [HAct.put, List.set_cons_zero, List.set_cons_succ]
        refine q_seq e59 ?_
        refine q_region e60 rfl ?_
        refine q_op (dst := some 65) rfl (fun _ ho => ok_move ho (.tmp rfl)) ?_
        refine q_op (dst := some 66) rfl (fun _ ho => ok_move ho (.tmp rfl)) ?_
        refine q_op (dst := some 67) rfl (fun _ ho => ok_ibin ho (.tmp rfl) (.int _ _) rfl) ?_
        obtain ⟨p19, hp19, h⟩ := bindo h
        refine q_op (dst := some 68) rfl (fun _ ho => ok_slice (kl := .i64) (kh := .i64) (s := y1) (l := 0) (h := (w64 (y9 + 1))) ho tu22 si29 (.tmp rfl) (.inl ⟨rfl, rfl⟩) (.inr ⟨_, rfl, (.tmp rfl)⟩) hp19) ?_
        try dsimp only [HAct.put, List.set_cons_zero, List.set_cons_succ]
        refine q_op (dst := some 10) rfl (fun _ ho => ok_assign ho (.tmp rfl)) ?_
        refine hr_region_end ?_
        try dsimp only [HAct.put, List.set_cons_zero, List.set_cons_succ]
        refine q_seq e61 ?_
        refine q_region e62 rfl ?_
        refine q_op (dst := some 69) rfl (fun _ ho => ok_move ho (.tmp rfl)) ?_
        obtain ⟨p20, hp20, h⟩ := bindo h
        refine q_call (dst := some 70) rfl (.func _) (.cons (.tmp rfl) Evs.nil) (HInv.static was_Past_int_Len.at_ was_Past_int_Len.body (was_Past_int_Len.snd  hp20)) ?_
        rintro _ _ ⟨rfl, rfl⟩
        refine q_op (dst := some 71) rfl (fun _ ho => ok_move ho (.tmp rfl)) ?_
        refine q_op (dst := some 72) rfl (fun _ ho => ok_ibin ho (.tmp rfl) (.int _ _) rfl) ?_
        try dsimp only [HAct.put, List.set_cons_zero, List.set_cons_succ]
        refine q_op (dst := some 73) rfl (fun _ ho => ok_move ho (.tmp rfl)) ?_
        refine q_op (dst := some 74) rfl (fun _ ho => ok_min ho (.tmp rfl) (.tmp rfl)) ?_
        refine q_op (dst := some 75) rfl (fun _ ho => ok_ibin ho (.tmp rfl) (.tmp rfl) rfl) ?_
        refine q_op (dst := some 76) rfl (fun _ ho => ok_move ho (.tmp rfl)) ?_
        try dsimp only [HAct.put, List.set_cons_zero, List.set_cons_succ]
        rcases ifc h with ⟨hc21, h⟩ | ⟨hc21, h⟩
        · refine q_skip (dst := some 77) (t := 76) rfl rfl rfl hc21 ?_
          refine q_skip (dst := some 78) (t := 76) rfl rfl rfl hc21 ?_
          refine q_skip (dst := some 79) (t := 76) rfl rfl rfl hc21 ?_
          refine q_skip (dst := some 80) (t := 76) rfl rfl rfl hc21 ?_
          try dsimp only [HAct.put, List.set_cons_zero, List.set_cons_succ]
          refine q_skip (dst := some 81) (t := 76) rfl rfl rfl hc21 ?_
          refine q_skip (dst := some 82) (t := 76) rfl rfl rfl hc21 ?_
          refine q_op (dst := some 83) rfl (fun _ ho => ok_pick_tt ho (.tmp rfl) hc21 (.bool _)) ?_
          try dsimp only [HAct.put, List.set_cons_zero, List.set_cons_succ]
          exact J4_snd hD hH ih h
        · refine q_op_g (t := 76) (dst := some 77) rfl rfl rfl (bfalse hc21) (fun _ ho => ok_move ho (.tmp rfl)) ?_
          refine q_op_g (t := 76) (dst := some 78) rfl rfl rfl (bfalse hc21) (fun _ ho => ok_move ho (.tmp rfl)) ?_
          refine q_op_g (t := 76) (dst := some 79) rfl rfl rfl (bfalse hc21) (fun _ ho => ok_move ho (.tmp rfl)) ?_
          obtain ⟨p26, hp26, h⟩ := bindo h
          refine q_call_g (t := 76) (dst := some 80) rfl rfl rfl (bfalse hc21) (.func _) (.cons (.tmp rfl) (.cons (.tmp rfl) (.cons (.str _) (.cons (.bool _) Evs.nil)))) (HInv.static rollcallref13_Last.at_ rollcallref13_Last.body (rollcallref13_Last.snd  hp26)) ?_
          rintro _ _ ⟨rfl, rfl⟩
          try dsimp only [HAct.put, List.set_cons_zero, List.set_cons_succ]
          obtain ⟨p27, hp27, h⟩ := bindo h
          refine q_call_g (t := 76) (dst := some 81) rfl rfl rfl (bfalse hc21) (.func _) (.cons (.tmp rfl) (.cons (.tmp rfl) (.cons (.str _) (.cons (.bool _) Evs.nil)))) (HInv.static rollcalllaw13_same.at_ rollcalllaw13_same.body (rollcalllaw13_same.snd hD hH hp27)) ?_
          rintro _ _ ⟨rfl, rfl⟩
          refine q_op_g (t := 76) (dst := some 82) rfl rfl rfl (bfalse hc21) (fun _ ho => ok_not ho (.tmp rfl)) ?_
          refine q_op (dst := some 83) rfl (fun _ ho => ok_pick_ff ho (.tmp rfl) (bfalse hc21) (.tmp rfl)) ?_
          try dsimp only [HAct.put, List.set_cons_zero, List.set_cons_succ]
          exact J4_snd hD hH ih h
    · refine q_cond_f e44 (.tmp rfl) (decide_eq_false hc10) ?_
      refine q_exit e46 rfl ?_
      refine q_seq e69 ?_
      refine q_region e70 rfl ?_
      refine q_op (dst := some 6) rfl (fun _ ho => ok_assign ho (.bool _)) ?_
      refine hr_region_end ?_
      try dsimp only [HAct.put, List.set_cons_zero, List.set_cons_succ]
      cases h
      exact q_ret e71 at_.at_ rfl (res1 rfl rfl) ⟨rfl, rfl⟩
def J1 (D : Dp) (H : Hd) (k : Nat) (y0 : Int) (y1 : Sl) (y2 : (List UInt8)) (y7 : (Option HA)) (y8 : Int) (y31 : Bool) (S : HS) : Option ((Bool) × HS) :=
  (if y31 = true then
  (if y8 = 2 then
  J2 D H k (Option.isNone y7) S else
  J2 D H k false S) else
  (if (!decide (y8 = 0)) = true then
  some (false, S) else
  L3 D H k k y0 y1 y2 y7 0 S))
theorem J1_snd {D : Dp} {H : Hd} {k : Nat} (hD : DSound Try.prog base W0 D) (hH : HSound Try.prog base W0 β0 H)  {y0 : Int} {y1 : Sl} {y2 : (List UInt8)} {y7 : (Option HA)} {y8 : Int} {y31 : Bool} {S : HS} {p : (Bool) × HS} {g3 g4 g5 g6 g9 g10 g11 g12 g13 g14 g15 g16 g17 g18 g19 g20 g21 g22 g23 g24 g25 g26 g27 g28 g29 g30 g32 g33 g34 g35 g36 g37 g38 g39 g40 g41 g42 g43 g44 g45 g46 g47 g48 g49 g50 g51 g52 g53 g54 g55 g56 g57 g58 g59 g60 g61 g62 g63 g64 g65 g66 g67 g68 g69 g70 g71 g72 g73 g74 g75 g76 g77 g78 g79 g80 g81 g82 g83 g84 g85 g86 g87 g88 g89 g90 g91 g92 g93 : HV} (h : J1 D H k y0 y1 y2 y7 y8 y31 S = some p) : HRun Try.prog base W0 β0 3 none [.code c23, .code c28] ⟨[(.int .i64 y0), (Sl.hv y1), (.str y2), g3, g4, g5, g6, (.ptr y7), (.int .i64 y8), g9, g10, g11, g12, g13, g14, g15, g16, g17, g18, g19, g20, g21, g22, g23, g24, g25, g26, g27, g28, g29, g30, (.bool y31), g32, g33, g34, g35, g36, g37, g38, g39, g40, g41, g42, g43, g44, g45, g46, g47, g48, g49, g50, g51, g52, g53, g54, g55, g56, g57, g58, g59, g60, g61, g62, g63, g64, g65, g66, g67, g68, g69, g70, g71, g72, g73, g74, g75, g76, g77, g78, g79, g80, g81, g82, g83, g84, g85, g86, g87, g88, g89, g90, g91, g92, g93], []⟩ S (fun v S1 => v = (.bool p.1) ∧ S1 = p.2) := by
  unfold J1 at h
  rcases ifc h with ⟨hc7, h⟩ | ⟨hc7, h⟩
  · refine q_cond_t e23 (.tmp rfl) hc7 ?_
    refine q_seq e24 ?_
    refine q_region e25 rfl ?_
    refine q_op (dst := some 32) rfl (fun _ ho => ok_move ho (.tmp rfl)) ?_
    refine q_op (dst := some 33) rfl (fun _ ho => ok_ibin ho (.tmp rfl) (.int _ _) rfl) ?_
    refine q_op (dst := some 34) rfl (fun _ ho => ok_move ho (.tmp rfl)) ?_
    rcases ifc h with ⟨hc8, h⟩ | ⟨hc8, h⟩
    · refine q_op_g (t := 34) (dst := some 35) rfl rfl rfl (decide_eq_true hc8) (fun _ ho => ok_move ho (.tmp rfl)) ?_
      try dsimp only [HAct.put, List.set_cons_zero, List.set_cons_succ]
      refine q_op_g (t := 34) (dst := some 36) rfl rfl rfl (decide_eq_true hc8) (fun _ ho => ok_nil_ptr ho tu24 (.tmp rfl) (.inl ⟨rfl, rfl⟩)) ?_
      refine q_op (dst := some 37) rfl (fun _ ho => ok_pick_tt ho (.tmp rfl) (decide_eq_true hc8) (.tmp rfl)) ?_
      try dsimp only [HAct.put, List.set_cons_zero, List.set_cons_succ]
      exact J2_snd hD hH h
    · refine q_skip (dst := some 35) (t := 34) rfl rfl rfl (decide_eq_false hc8) ?_
      try dsimp only [HAct.put, List.set_cons_zero, List.set_cons_succ]
      refine q_skip (dst := some 36) (t := 34) rfl rfl rfl (decide_eq_false hc8) ?_
      refine q_op (dst := some 37) rfl (fun _ ho => ok_pick_ff ho (.tmp rfl) (decide_eq_false hc8) (.bool _)) ?_
      try dsimp only [HAct.put, List.set_cons_zero, List.set_cons_succ]
      exact J2_snd hD hH h
  · refine q_cond_f e23 (.tmp rfl) (bfalse hc7) ?_
    refine q_skipc e27 ?_
    refine q_seq e28 ?_
    refine q_seq e29 ?_
    refine q_region e30 rfl ?_
    refine q_op (dst := some 38) rfl (fun _ ho => ok_move ho (.tmp rfl)) ?_
    refine q_op (dst := some 39) rfl (fun _ ho => ok_ibin ho (.tmp rfl) (.int _ _) rfl) ?_
    refine hr_region_end ?_
    try dsimp only [HAct.put, List.set_cons_zero, List.set_cons_succ]
    rcases ifc h with ⟨hc9, h⟩ | ⟨hc9, h⟩
    · refine q_cond_t e31 (.tmp rfl) hc9 ?_
      refine q_seq e32 ?_
      refine q_region e33 rfl ?_
      refine q_op (dst := some 6) rfl (fun _ ho => ok_assign ho (.bool _)) ?_
      refine hr_region_end ?_
      try dsimp only [HAct.put, List.set_cons_zero, List.set_cons_succ]
      cases h
      exact q_ret e34 at_.at_ rfl (res1 rfl rfl) ⟨rfl, rfl⟩
    · refine q_cond_f e31 (.tmp rfl) (bfalse hc9) ?_
      refine q_skipc e35 ?_
      refine q_seq e36 ?_
      refine q_seq e37 ?_
      refine q_region e38 rfl ?_
      refine q_op (dst := some 9) rfl (fun _ ho => ok_assign ho (.int _ _)) ?_
      refine hr_region_end ?_
      try dsimp only [HAct.put, List.set_cons_zero, List.set_cons_succ]
      refine q_block e39 ?_
      refine q_loop e40 ?_
      try dsimp only [HAct.put, List.set_cons_zero, List.set_cons_succ]
      exact L3_snd hD hH h
def J0 (D : Dp) (H : Hd) (k : Nat) (y0 : Int) (y1 : Sl) (y2 : (List UInt8)) (y20 : Bool) (S : HS) : Option ((Bool) × HS) :=
  (if y20 = true then
  some (true, S) else
  (Option.bind (was_New_int.f y0 S) fun p5 =>
  (if y0 < 0 then
  J1 D H k y0 y1 y2 p5.1.1 p5.1.2 true p5.2 else
  J1 D H k y0 y1 y2 p5.1.1 p5.1.2 (decide (y0 > 100000)) p5.2)))
theorem J0_snd {D : Dp} {H : Hd} {k : Nat} (hD : DSound Try.prog base W0 D) (hH : HSound Try.prog base W0 β0 H)  {y0 : Int} {y1 : Sl} {y2 : (List UInt8)} {y20 : Bool} {S : HS} {p : (Bool) × HS} {g3 g4 g5 g6 g7 g8 g9 g10 g11 g12 g13 g14 g15 g16 g17 g18 g19 g21 g22 g23 g24 g25 g26 g27 g28 g29 g30 g31 g32 g33 g34 g35 g36 g37 g38 g39 g40 g41 g42 g43 g44 g45 g46 g47 g48 g49 g50 g51 g52 g53 g54 g55 g56 g57 g58 g59 g60 g61 g62 g63 g64 g65 g66 g67 g68 g69 g70 g71 g72 g73 g74 g75 g76 g77 g78 g79 g80 g81 g82 g83 g84 g85 g86 g87 g88 g89 g90 g91 g92 g93 : HV} (h : J0 D H k y0 y1 y2 y20 S = some p) : HRun Try.prog base W0 β0 3 none [.code c13, .code c18] ⟨[(.int .i64 y0), (Sl.hv y1), (.str y2), g3, g4, g5, g6, g7, g8, g9, g10, g11, g12, g13, g14, g15, g16, g17, g18, g19, (.bool y20), g21, g22, g23, g24, g25, g26, g27, g28, g29, g30, g31, g32, g33, g34, g35, g36, g37, g38, g39, g40, g41, g42, g43, g44, g45, g46, g47, g48, g49, g50, g51, g52, g53, g54, g55, g56, g57, g58, g59, g60, g61, g62, g63, g64, g65, g66, g67, g68, g69, g70, g71, g72, g73, g74, g75, g76, g77, g78, g79, g80, g81, g82, g83, g84, g85, g86, g87, g88, g89, g90, g91, g92, g93], []⟩ S (fun v S1 => v = (.bool p.1) ∧ S1 = p.2) := by
  unfold J0 at h
  rcases ifc h with ⟨hc4, h⟩ | ⟨hc4, h⟩
  · refine q_cond_t e13 (.tmp rfl) hc4 ?_
    refine q_seq e14 ?_
    refine q_region e15 rfl ?_
    refine q_op (dst := some 6) rfl (fun _ ho => ok_assign ho (.bool _)) ?_
    refine hr_region_end ?_
    try dsimp only [HAct.put, List.set_cons_zero, List.set_cons_succ]
    cases h
    exact q_ret e16 at_.at_ rfl (res1 rfl rfl) ⟨rfl, rfl⟩
  · refine q_cond_f e13 (.tmp rfl) (bfalse hc4) ?_
    refine q_skipc e17 ?_
    refine q_seq e18 ?_
    refine q_region e19 rfl ?_
    refine q_op (dst := some 22) rfl (fun _ ho => ok_move ho (.tmp rfl)) ?_
    obtain ⟨p5, hp5, h⟩ := bindo h
    refine q_call (dst := some 23) rfl (.func _) (.cons (.tmp rfl) Evs.nil) (HInv.static was_New_int.at_ was_New_int.body (was_New_int.snd  hp5)) ?_
    rintro _ _ ⟨rfl, rfl⟩
    refine q_op (dst := some 21) rfl (fun _ ho => ok_move ho (.tmp rfl)) ?_
    refine q_op (dst := some 24) rfl (fun _ ho => ok_extract ho (.tmp rfl) rfl) ?_
    try dsimp only [HAct.put, List.set_cons_zero, List.set_cons_succ]
    refine q_op (dst := some 25) rfl (fun _ ho => ok_extract ho (.tmp rfl) rfl) ?_
    refine q_op (dst := some 7) rfl (fun _ ho => ok_assign ho (.tmp rfl)) ?_
    refine q_op (dst := some 8) rfl (fun _ ho => ok_assign ho (.tmp rfl)) ?_
    refine hr_region_end ?_
    try dsimp only [HAct.put, List.set_cons_zero, List.set_cons_succ]
    refine q_seq e20 ?_
    refine q_seq e21 ?_
    refine q_region e22 rfl ?_
    refine q_op (dst := some 26) rfl (fun _ ho => ok_move ho (.tmp rfl)) ?_
    refine q_op (dst := some 27) rfl (fun _ ho => ok_ibin ho (.tmp rfl) (.int _ _) rfl) ?_
    refine q_op (dst := some 28) rfl (fun _ ho => ok_move ho (.tmp rfl)) ?_
    rcases ifc h with ⟨hc6, h⟩ | ⟨hc6, h⟩
    · refine q_skip (dst := some 29) (t := 28) rfl rfl rfl (decide_eq_true hc6) ?_
      try dsimp only [HAct.put, List.set_cons_zero, List.set_cons_succ]
      refine q_skip (dst := some 30) (t := 28) rfl rfl rfl (decide_eq_true hc6) ?_
      refine q_op (dst := some 31) rfl (fun _ ho => ok_pick_tt ho (.tmp rfl) (decide_eq_true hc6) (.bool _)) ?_
      refine hr_region_end ?_
      try dsimp only [HAct.put, List.set_cons_zero, List.set_cons_succ]
      try dsimp only [HAct.put, List.set_cons_zero, List.set_cons_succ]
      exact J1_snd hD hH h
    · refine q_op_g (t := 28) (dst := some 29) rfl rfl rfl (decide_eq_false hc6) (fun _ ho => ok_move ho (.tmp rfl)) ?_
      try dsimp only [HAct.put, List.set_cons_zero, List.set_cons_succ]
      refine q_op_g (t := 28) (dst := some 30) rfl rfl rfl (decide_eq_false hc6) (fun _ ho => ok_ibin ho (.tmp rfl) (.int _ _) rfl) ?_
      refine q_op (dst := some 31) rfl (fun _ ho => ok_pick_ff ho (.tmp rfl) (decide_eq_false hc6) (.tmp rfl)) ?_
      refine hr_region_end ?_
      try dsimp only [HAct.put, List.set_cons_zero, List.set_cons_succ]
      try dsimp only [HAct.put, List.set_cons_zero, List.set_cons_succ]
      exact J1_snd hD hH h
def f (D : Dp) (H : Hd) (k : Nat) (x0 : Int) (x1 : Sl) (x2 : (List UInt8)) (S : HS) : Option ((Bool) × HS) :=
  (Option.bind (rollcalllaw13_awake.f D H k S) fun p1 =>
  (if (!p1.1) = true then
  some (false, p1.2) else
  (if (Sl.len x1 : Int) > 60 then
  J0 D H k x0 x1 x2 true p1.2 else
  J0 D H k x0 x1 x2 (decide ((List.length x2 : Int) > 30)) p1.2)))
theorem snd {D : Dp} {H : Hd} {k : Nat} {x0 : Int} {x1 : Sl} {x2 : (List UInt8)} {S : HS} (hD : DSound Try.prog base W0 D) (hH : HSound Try.prog base W0 β0 H)  {p : (Bool) × HS} (h : f D H k x0 x1 x2 S = some p) : HCall Try.prog base W0 β0 3 [(.int .i64 x0), (Sl.hv x1), (.str x2)] S (fun v S1 => v = (.bool p.1) ∧ S1 = p.2) := by
  unfold f at h
  refine HCall.of_run at_.at_ body ?_
  show HRun Try.prog base W0 β0 3 none [.code c0] ⟨[(.int .i64 x0), (Sl.hv x1), (.str x2), .tup [], .tup [], .tup [], .tup [], .tup [], .tup [], .tup [], .tup [], .tup [], .tup [], .tup [], .tup [], .tup [], .tup [], .tup [], .tup [], .tup [], .tup [], .tup [], .tup [], .tup [], .tup [], .tup [], .tup [], .tup [], .tup [], .tup [], .tup [], .tup [], .tup [], .tup [], .tup [], .tup [], .tup [], .tup [], .tup [], .tup [], .tup [], .tup [], .tup [], .tup [], .tup [], .tup [], .tup [], .tup [], .tup [], .tup [], .tup [], .tup [], .tup [], .tup [], .tup [], .tup [], .tup [], .tup [], .tup [], .tup [], .tup [], .tup [], .tup [], .tup [], .tup [], .tup [], .tup [], .tup [], .tup [], .tup [], .tup [], .tup [], .tup [], .tup [], .tup [], .tup [], .tup [], .tup [], .tup [], .tup [], .tup [], .tup [], .tup [], .tup [], .tup [], .tup [], .tup [], .tup [], .tup [], .tup [], .tup [], .tup [], .tup [], .tup []], []⟩ S _
  refine q_seq e0 ?_
  refine q_region e1 rfl ?_
  refine q_op (dst := some 6) rfl (fun _ ho => ok_assign ho (.bool _)) ?_
  refine hr_region_end ?_
  try dsimp only [HAct.put, List.set_cons_zero, List.set_cons_succ]
  refine q_seq e2 ?_
  refine q_seq e3 ?_
  refine q_region e4 rfl ?_
  obtain ⟨p1, hp1, h⟩ := bindo h
  refine q_call (dst := some 11) rfl (.func _) Evs.nil (HInv.static rollcalllaw13_awake.at_ rollcalllaw13_awake.body (rollcalllaw13_awake.snd hD hH hp1)) ?_
  rintro _ _ ⟨rfl, rfl⟩
  refine q_op (dst := some 12) rfl (fun _ ho => ok_not ho (.tmp rfl)) ?_
  refine hr_region_end ?_
  try dsimp only [HAct.put, List.set_cons_zero, List.set_cons_succ]
  rcases ifc h with ⟨hc2, h⟩ | ⟨hc2, h⟩
  · refine q_cond_t e5 (.tmp rfl) hc2 ?_
    refine q_seq e6 ?_
    refine q_region e7 rfl ?_
    refine q_op (dst := some 6) rfl (fun _ ho => ok_assign ho (.bool _)) ?_
    refine hr_region_end ?_
    try dsimp only [HAct.put, List.set_cons_zero, List.set_cons_succ]
    cases h
    exact q_ret e8 at_.at_ rfl (res1 rfl rfl) ⟨rfl, rfl⟩
  · refine q_cond_f e5 (.tmp rfl) (bfalse hc2) ?_
    refine q_skipc e9 ?_
    refine q_seq e10 ?_
    refine q_seq e11 ?_
    refine q_region e12 rfl ?_
    refine q_op (dst := some 13) rfl (fun _ ho => ok_move ho (.tmp rfl)) ?_
    refine q_op (dst := some 14) rfl (fun _ ho => ok_len_sl (q := Sl.a x1) (n := Sl.len x1) (z := Sl.cap x1) ho rfl tu22 (.tmp rfl)) ?_
    refine q_op (dst := some 15) rfl (fun _ ho => ok_ibin ho (.tmp rfl) (.int _ _) rfl) ?_
    refine q_op (dst := some 16) rfl (fun _ ho => ok_move ho (.tmp rfl)) ?_
    try dsimp only [HAct.put, List.set_cons_zero, List.set_cons_succ]
    rcases ifc h with ⟨hc3, h⟩ | ⟨hc3, h⟩
    · refine q_skip (dst := some 17) (t := 16) rfl rfl rfl (decide_eq_true hc3) ?_
      refine q_skip (dst := some 18) (t := 16) rfl rfl rfl (decide_eq_true hc3) ?_
      refine q_skip (dst := some 19) (t := 16) rfl rfl rfl (decide_eq_true hc3) ?_
      refine q_op (dst := some 20) rfl (fun _ ho => ok_pick_tt ho (.tmp rfl) (decide_eq_true hc3) (.bool _)) ?_
      refine hr_region_end ?_
      try dsimp only [HAct.put, List.set_cons_zero, List.set_cons_succ]
      try dsimp only [HAct.put, List.set_cons_zero, List.set_cons_succ]
      exact J0_snd hD hH h
    · refine q_op_g (t := 16) (dst := some 17) rfl rfl rfl (decide_eq_false hc3) (fun _ ho => ok_move ho (.tmp rfl)) ?_
      refine q_op_g (t := 16) (dst := some 18) rfl rfl rfl (decide_eq_false hc3) (fun _ ho => ok_len_str ho rfl tu9 (.tmp rfl)) ?_
      refine q_op_g (t := 16) (dst := some 19) rfl rfl rfl (decide_eq_false hc3) (fun _ ho => ok_ibin ho (.tmp rfl) (.int _ _) rfl) ?_
      refine q_op (dst := some 20) rfl (fun _ ho => ok_pick_ff ho (.tmp rfl) (decide_eq_false hc3) (.tmp rfl)) ?_
      refine hr_region_end ?_
      try dsimp only [HAct.put, List.set_cons_zero, List.set_cons_succ]
      try dsimp only [HAct.put, List.set_cons_zero, List.set_cons_succ]
      exact J0_snd hD hH h
end
end rollcalllaw13_WasPlays
namespace rollcalllaw13_WasStays
abbrev id : Nat := 4
theorem at_ : FnAt Try.prog 4 Try.f4 := ⟨Try.func4, by kernel_rfl⟩
noncomputable def c0 : Code := (Try.f4.body).getD .skip
noncomputable def c1 : Code := match c0 with | .seq x _ => x | _ => .skip
noncomputable def c2 : Code := match c0 with | .seq _ x => x | _ => .skip
noncomputable def c3 : Code := match c2 with | .seq x _ => x | _ => .skip
noncomputable def c4 : Code := match c3 with | .seq x _ => x | _ => .skip
noncomputable def c5 : Code := match c3 with | .seq _ x => x | _ => .skip
noncomputable def c6 : Code := match c5 with | .cond _ x _ => x | _ => .skip
noncomputable def c7 : Code := match c6 with | .seq x _ => x | _ => .skip
noncomputable def c8 : Code := match c6 with | .seq _ x => x | _ => .skip
noncomputable def c9 : Code := match c5 with | .cond _ _ x => x | _ => .skip
noncomputable def c10 : Code := match c2 with | .seq _ x => x | _ => .skip
noncomputable def c11 : Code := match c10 with | .seq x _ => x | _ => .skip
noncomputable def c12 : Code := match c10 with | .seq _ x => x | _ => .skip
noncomputable def c13 : Code := match c12 with | .seq x _ => x | _ => .skip
noncomputable def c14 : Code := match c13 with | .seq x _ => x | _ => .skip
noncomputable def c15 : Code := match c13 with | .seq _ x => x | _ => .skip
noncomputable def c16 : Code := match c15 with | .cond _ x _ => x | _ => .skip
noncomputable def c17 : Code := match c16 with | .seq x _ => x | _ => .skip
noncomputable def c18 : Code := match c16 with | .seq _ x => x | _ => .skip
noncomputable def c19 : Code := match c15 with | .cond _ _ x => x | _ => .skip
noncomputable def c20 : Code := match c12 with | .seq _ x => x | _ => .skip
noncomputable def c21 : Code := match c20 with | .seq x _ => x | _ => .skip
noncomputable def c22 : Code := match c21 with | .seq x _ => x | _ => .skip
noncomputable def c23 : Code := match c21 with | .seq _ x => x | _ => .skip
noncomputable def c24 : Code := match c23 with | .block _ x => x | _ => .skip
noncomputable def c25 : Code := match c24 with | .loop x => x | _ => .skip
noncomputable def c26 : Code := match c25 with | .seq x _ => x | _ => .skip
noncomputable def c27 : Code := match c26 with | .seq x _ => x | _ => .skip
noncomputable def c28 : Code := match c26 with | .seq _ x => x | _ => .skip
noncomputable def c29 : Code := match c28 with | .cond _ x _ => x | _ => .skip
noncomputable def c30 : Code := match c28 with | .cond _ _ x => x | _ => .skip
noncomputable def c31 : Code := match c25 with | .seq _ x => x | _ => .skip
noncomputable def c32 : Code := match c31 with | .seq x _ => x | _ => .skip
noncomputable def c33 : Code := match c32 with | .block _ x => x | _ => .skip
noncomputable def c34 : Code := match c31 with | .seq _ x => x | _ => .skip
noncomputable def c35 : Code := match c20 with | .seq _ x => x | _ => .skip
noncomputable def c36 : Code := match c35 with | .seq x _ => x | _ => .skip
noncomputable def c37 : Code := match c35 with | .seq _ x => x | _ => .skip
noncomputable def c38 : Code := match c37 with | .seq x _ => x | _ => .skip
noncomputable def c39 : Code := match c37 with | .seq _ x => x | _ => .skip
noncomputable def c40 : Code := match c39 with | .seq x _ => x | _ => .skip
noncomputable def c41 : Code := match c40 with | .seq x _ => x | _ => .skip
noncomputable def c42 : Code := match c40 with | .seq _ x => x | _ => .skip
noncomputable def c43 : Code := match c42 with | .cond _ x _ => x | _ => .skip
noncomputable def c44 : Code := match c43 with | .seq x _ => x | _ => .skip
noncomputable def c45 : Code := match c43 with | .seq _ x => x | _ => .skip
noncomputable def c46 : Code := match c42 with | .cond _ _ x => x | _ => .skip
noncomputable def c47 : Code := match c39 with | .seq _ x => x | _ => .skip
noncomputable def c48 : Code := match c47 with | .seq x _ => x | _ => .skip
noncomputable def c49 : Code := match c47 with | .seq _ x => x | _ => .skip
noncomputable def c50 : Code := match c49 with | .seq x _ => x | _ => .skip
noncomputable def c51 : Code := match c49 with | .seq _ x => x | _ => .skip
noncomputable def c52 : Code := match c51 with | .seq x _ => x | _ => .skip
noncomputable def c53 : Code := match c52 with | .seq x _ => x | _ => .skip
noncomputable def c54 : Code := match c52 with | .seq _ x => x | _ => .skip
noncomputable def c55 : Code := match c54 with | .block _ x => x | _ => .skip
noncomputable def c56 : Code := match c55 with | .rangeFunc _ _ x _ => x | _ => .skip
noncomputable def c57 : Code := match c55 with | .rangeFunc _ _ _ x => x | _ => .skip
noncomputable def c58 : Code := match c57 with | .block _ x => x | _ => .skip
noncomputable def c59 : Code := match c58 with | .seq x _ => x | _ => .skip
noncomputable def c60 : Code := match c59 with | .seq x _ => x | _ => .skip
noncomputable def c61 : Code := match c59 with | .seq _ x => x | _ => .skip
noncomputable def c62 : Code := match c61 with | .cond _ x _ => x | _ => .skip
noncomputable def c63 : Code := match c62 with | .seq x _ => x | _ => .skip
noncomputable def c64 : Code := match c62 with | .seq _ x => x | _ => .skip
noncomputable def c65 : Code := match c61 with | .cond _ _ x => x | _ => .skip
noncomputable def c66 : Code := match c58 with | .seq _ x => x | _ => .skip
noncomputable def c67 : Code := match c66 with | .seq x _ => x | _ => .skip
noncomputable def c68 : Code := match c66 with | .seq _ x => x | _ => .skip
noncomputable def c69 : Code := match c68 with | .seq x _ => x | _ => .skip
noncomputable def c70 : Code := match c68 with | .seq _ x => x | _ => .skip
noncomputable def c71 : Code := match c51 with | .seq _ x => x | _ => .skip
noncomputable def c72 : Code := match c71 with | .seq x _ => x | _ => .skip
noncomputable def c73 : Code := match c71 with | .seq _ x => x | _ => .skip
noncomputable def c74 : Code := match c73 with | .seq x _ => x | _ => .skip
noncomputable def c75 : Code := match c73 with | .seq _ x => x | _ => .skip
noncomputable def c76 : Code := match c75 with | .seq x _ => x | _ => .skip
noncomputable def c77 : Code := match c75 with | .seq _ x => x | _ => .skip
theorem e0 : c0 = .seq c1 c2 := by kernel_rfl
noncomputable def r1 : Array Oper := match c1 with | .region _ x _ => x | _ => #[]
theorem e1 : c1 = .region 0 r1 false := by kernel_rfl
theorem e2 : c2 = .seq c3 c10 := by kernel_rfl
theorem e3 : c3 = .seq c4 c5 := by kernel_rfl
noncomputable def r4 : Array Oper := match c4 with | .region _ x _ => x | _ => #[]
theorem e4 : c4 = .region 1 r4 false := by kernel_rfl
theorem e5 : c5 = .cond (.tmp 16) c6 c9 := by kernel_rfl
theorem e6 : c6 = .seq c7 c8 := by kernel_rfl
noncomputable def r7 : Array Oper := match c7 with | .region _ x _ => x | _ => #[]
theorem e7 : c7 = .region 2 r7 false := by kernel_rfl
theorem e8 : c8 = .ret := by kernel_rfl
theorem e9 : c9 = .skip := by kernel_rfl
theorem e10 : c10 = .seq c11 c12 := by kernel_rfl
noncomputable def r11 : Array Oper := match c11 with | .region _ x _ => x | _ => #[]
theorem e11 : c11 = .region 3 r11 false := by kernel_rfl
theorem e12 : c12 = .seq c13 c20 := by kernel_rfl
theorem e13 : c13 = .seq c14 c15 := by kernel_rfl
noncomputable def r14 : Array Oper := match c14 with | .region _ x _ => x | _ => #[]
theorem e14 : c14 = .region 4 r14 false := by kernel_rfl
theorem e15 : c15 = .cond (.tmp 29) c16 c19 := by kernel_rfl
theorem e16 : c16 = .seq c17 c18 := by kernel_rfl
noncomputable def r17 : Array Oper := match c17 with | .region _ x _ => x | _ => #[]
theorem e17 : c17 = .region 5 r17 false := by kernel_rfl
theorem e18 : c18 = .ret := by kernel_rfl
theorem e19 : c19 = .skip := by kernel_rfl
theorem e20 : c20 = .seq c21 c35 := by kernel_rfl
theorem e21 : c21 = .seq c22 c23 := by kernel_rfl
noncomputable def r22 : Array Oper := match c22 with | .region _ x _ => x | _ => #[]
theorem e22 : c22 = .region 6 r22 false := by kernel_rfl
theorem e23 : c23 = .block 0 c24 := by kernel_rfl
theorem e24 : c24 = .loop c25 := by kernel_rfl
theorem e25 : c25 = .seq c26 c31 := by kernel_rfl
theorem e26 : c26 = .seq c27 c28 := by kernel_rfl
noncomputable def r27 : Array Oper := match c27 with | .region _ x _ => x | _ => #[]
theorem e27 : c27 = .region 7 r27 false := by kernel_rfl
theorem e28 : c28 = .cond (.tmp 35) c29 c30 := by kernel_rfl
theorem e29 : c29 = .skip := by kernel_rfl
theorem e30 : c30 = .exit 0 := by kernel_rfl
theorem e31 : c31 = .seq c32 c34 := by kernel_rfl
theorem e32 : c32 = .block 1 c33 := by kernel_rfl
noncomputable def r33 : Array Oper := match c33 with | .region _ x _ => x | _ => #[]
theorem e33 : c33 = .region 9 r33 true := by kernel_rfl
noncomputable def r34 : Array Oper := match c34 with | .region _ x _ => x | _ => #[]
theorem e34 : c34 = .region 8 r34 false := by kernel_rfl
theorem e35 : c35 = .seq c36 c37 := by kernel_rfl
noncomputable def r36 : Array Oper := match c36 with | .region _ x _ => x | _ => #[]
theorem e36 : c36 = .region 10 r36 false := by kernel_rfl
theorem e37 : c37 = .seq c38 c39 := by kernel_rfl
noncomputable def r38 : Array Oper := match c38 with | .region _ x _ => x | _ => #[]
theorem e38 : c38 = .region 11 r38 false := by kernel_rfl
theorem e39 : c39 = .seq c40 c47 := by kernel_rfl
theorem e40 : c40 = .seq c41 c42 := by kernel_rfl
noncomputable def r41 : Array Oper := match c41 with | .region _ x _ => x | _ => #[]
theorem e41 : c41 = .region 12 r41 false := by kernel_rfl
theorem e42 : c42 = .cond (.tmp 49) c43 c46 := by kernel_rfl
theorem e43 : c43 = .seq c44 c45 := by kernel_rfl
noncomputable def r44 : Array Oper := match c44 with | .region _ x _ => x | _ => #[]
theorem e44 : c44 = .region 13 r44 false := by kernel_rfl
theorem e45 : c45 = .ret := by kernel_rfl
theorem e46 : c46 = .skip := by kernel_rfl
theorem e47 : c47 = .seq c48 c49 := by kernel_rfl
noncomputable def r48 : Array Oper := match c48 with | .region _ x _ => x | _ => #[]
theorem e48 : c48 = .region 14 r48 false := by kernel_rfl
theorem e49 : c49 = .seq c50 c51 := by kernel_rfl
noncomputable def r50 : Array Oper := match c50 with | .region _ x _ => x | _ => #[]
theorem e50 : c50 = .region 15 r50 false := by kernel_rfl
theorem e51 : c51 = .seq c52 c71 := by kernel_rfl
theorem e52 : c52 = .seq c53 c54 := by kernel_rfl
noncomputable def r53 : Array Oper := match c53 with | .region _ x _ => x | _ => #[]
theorem e53 : c53 = .region 16 r53 false := by kernel_rfl
theorem e54 : c54 = .block 2 c55 := by kernel_rfl
theorem e55 : c55 = .rangeFunc (.tmp 50) #[51, 52] c56 c57 := by kernel_rfl
noncomputable def r56 : Array Oper := match c56 with | .region _ x _ => x | _ => #[]
theorem e56 : c56 = .region 17 r56 false := by kernel_rfl
theorem e57 : c57 = .block 3 c58 := by kernel_rfl
theorem e58 : c58 = .seq c59 c66 := by kernel_rfl
theorem e59 : c59 = .seq c60 c61 := by kernel_rfl
noncomputable def r60 : Array Oper := match c60 with | .region _ x _ => x | _ => #[]
theorem e60 : c60 = .region 18 r60 false := by kernel_rfl
theorem e61 : c61 = .cond (.tmp 55) c62 c65 := by kernel_rfl
theorem e62 : c62 = .seq c63 c64 := by kernel_rfl
noncomputable def r63 : Array Oper := match c63 with | .region _ x _ => x | _ => #[]
theorem e63 : c63 = .region 19 r63 false := by kernel_rfl
theorem e64 : c64 = .ret := by kernel_rfl
theorem e65 : c65 = .skip := by kernel_rfl
theorem e66 : c66 = .seq c67 c68 := by kernel_rfl
noncomputable def r67 : Array Oper := match c67 with | .region _ x _ => x | _ => #[]
theorem e67 : c67 = .region 20 r67 false := by kernel_rfl
theorem e68 : c68 = .seq c69 c70 := by kernel_rfl
noncomputable def r69 : Array Oper := match c69 with | .region _ x _ => x | _ => #[]
theorem e69 : c69 = .region 21 r69 false := by kernel_rfl
noncomputable def r70 : Array Oper := match c70 with | .region _ x _ => x | _ => #[]
theorem e70 : c70 = .region 22 r70 false := by kernel_rfl
theorem e71 : c71 = .seq c72 c73 := by kernel_rfl
noncomputable def r72 : Array Oper := match c72 with | .region _ x _ => x | _ => #[]
theorem e72 : c72 = .region 23 r72 false := by kernel_rfl
theorem e73 : c73 = .seq c74 c75 := by kernel_rfl
noncomputable def r74 : Array Oper := match c74 with | .region _ x _ => x | _ => #[]
theorem e74 : c74 = .region 24 r74 false := by kernel_rfl
theorem e75 : c75 = .seq c76 c77 := by kernel_rfl
noncomputable def r76 : Array Oper := match c76 with | .region _ x _ => x | _ => #[]
theorem e76 : c76 = .region 25 r76 false := by kernel_rfl
theorem e77 : c77 = .ret := by kernel_rfl
theorem body : Try.f4.body = some c0 := by kernel_rfl
section
variable {base : Nat} {W0 : World} {β0 : Bt}
def J3 (D : Dp) (H : Hd) (k : Nat) (l : Nat) (y5 : (Option HA)) (y10 : (Option HA)) (y11 : (Option HA)) (y68 : Bool) (S : HS) : Option (HV × HS) :=
  (Option.bind (y11) fun p66 =>
  (Option.bind (HS.sets S p66 [(.bool y68)]) fun p67 =>
  (Option.bind (y5) fun p68 =>
  (Option.bind (HS.ldP p67 p68) fun p69 =>
  (Option.bind (was_Past_int_Put.f p69 ([121] : List UInt8) (-1) p67) fun p70 =>
  (Option.bind (y10) fun p71 =>
  (Option.bind (HS.ldI p70.2 .i64 p71) fun p72 =>
  (Option.bind (y10) fun p73 =>
  (Option.bind (HS.sets p70.2 p73 [(.int .i64 (w64 (p72 + 1)))]) fun p74 =>
  (HS.endr p74 l none))))))))))
theorem J3_snd {D : Dp} {H : Hd} {k : Nat} {l : Nat} (hD : DSound Try.prog base W0 D) (hH : HSound Try.prog base W0 β0 H)  {y5 : (Option HA)} {y10 : (Option HA)} {y11 : (Option HA)} {y68 : Bool} {S : HS} {p : HV × HS} {g0 g1 g2 g3 g4 g6 g7 g8 g9 g12 g13 g14 g15 g16 g17 g18 g19 g20 g21 g22 g23 g24 g25 g26 g27 g28 g29 g30 g31 g32 g33 g34 g35 g36 g37 g38 g39 g40 g41 g42 g43 g44 g45 g46 g47 g48 g49 g50 g51 g52 g53 g54 g55 g56 g57 g58 g59 g60 g61 g62 g63 g64 g65 g66 g67 g69 g70 g71 g72 g73 g74 g75 g76 g77 g78 g79 g80 g81 g82 g83 g84 g85 g86 g87 g88 g89 g90 g91 g92 g93 g94 g95 g96 g97 g98 g99 g100 g101 g102 : HV} (h : J3 D H k l y5 y10 y11 y68 S = some p) : HRun Try.prog base W0 β0 4 (some l) [.inRegion r67 [13], .code c68, .inBlock 3] ⟨[g0, g1, g2, g3, g4, (.ptr y5), g6, g7, g8, g9, (.ptr y10), (.ptr y11), g12, g13, g14, g15, g16, g17, g18, g19, g20, g21, g22, g23, g24, g25, g26, g27, g28, g29, g30, g31, g32, g33, g34, g35, g36, g37, g38, g39, g40, g41, g42, g43, g44, g45, g46, g47, g48, g49, g50, g51, g52, g53, g54, g55, g56, g57, g58, g59, g60, g61, g62, g63, g64, g65, g66, g67, (.bool y68), g69, g70, g71, g72, g73, g74, g75, g76, g77, g78, g79, g80, g81, g82, g83, g84, g85, g86, g87, g88, g89, g90, g91, g92, g93, g94, g95, g96, g97, g98, g99, g100, g101, g102], []⟩ S (fun v S1 => v = p.1 ∧ S1 = p.2) := by
  unfold J3 at h
  obtain ⟨p66, hp66, h⟩ := bindo h
  obtain ⟨p67, hp67, h⟩ := bindo h
  refine q_op (dst := none) rfl (fun _ ho => ok_store_s (v := (.bool y68)) ho sz4 (.tmp rfl) hp66 (.tmp rfl) rfl hp67) ?_
  refine hr_region_end ?_
  try dsimp only [HAct.put, List.set_cons_zero, List.set_cons_succ]
  refine q_seq e68 ?_
  refine q_region e69 rfl ?_
  obtain ⟨p68, hp68, h⟩ := bindo h
  obtain ⟨p69, hp69, h⟩ := bindo h
  refine q_op (dst := some 69) rfl (fun _ ho => ok_load_s ho sc24 (.tmp rfl) hp68 (ldP_out hp69)) ?_
  obtain ⟨p70, hp70, h⟩ := bindo h
  refine q_call (dst := some 70) rfl (.func _) (.cons (.tmp rfl) (.cons (.str _) (.cons (.int _ _) Evs.nil))) (HInv.static was_Past_int_Put.at_ was_Past_int_Put.body (was_Past_int_Put.snd  hp70)) ?_
  rintro _ _ ⟨rfl, rfl⟩
  refine hr_region_end ?_
  try dsimp only [HAct.put, List.set_cons_zero, List.set_cons_succ]
  refine q_region e70 rfl ?_
  obtain ⟨p71, hp71, h⟩ := bindo h
  obtain ⟨p72, hp72, h⟩ := bindo h
  refine q_op (dst := some 71) rfl (fun _ ho => ok_load_s ho sc3 (.tmp rfl) hp71 (ldI_out hp72)) ?_
  refine q_op (dst := some 72) rfl (fun _ ho => ok_ibin ho (.tmp rfl) (.int _ _) rfl) ?_
  obtain ⟨p73, hp73, h⟩ := bindo h
  obtain ⟨p74, hp74, h⟩ := bindo h
  refine q_op (dst := none) rfl (fun _ ho => ok_store_s (v := (.int .i64 (w64 (p72 + 1)))) ho sz3 (.tmp rfl) hp73 (.tmp rfl) rfl hp74) ?_
  refine hr_region_end ?_
  try dsimp only [HAct.put, List.set_cons_zero, List.set_cons_succ]
  refine hr_inBlock ?_
  exact q_round_end h ⟨rfl, rfl⟩
def J2 (D : Dp) (H : Hd) (k : Nat) (l : Nat) (y3 : (Option HA)) (y4 : (Option HA)) (y5 : (Option HA)) (y8 : (Option HA)) (y10 : (Option HA)) (y11 : (Option HA)) (y52 : Int) (S : HS) : Option (HV × HS) :=
  (Option.bind (HS.begin_ S l) fun p47 =>
  (Option.bind (y10) fun p48 =>
  (Option.bind (HS.ldI p47 .i64 p48) fun p49 =>
  (Option.bind (y8) fun p50 =>
  (Option.bind (HS.ldI p47 .i64 p50) fun p51 =>
  (if p49 ≥ p51 then
  (Option.bind (y4) fun p53 =>
  (Option.bind (HS.sets p47 p53 [(.bool false)]) fun p54 =>
  (HS.endr p54 l (some .ret)))) else
  (Option.bind (y11) fun p55 =>
  (Option.bind (HS.ldB p47 p55) fun p56 =>
  (if p56 = true then
  (Option.bind (y3) fun p58 =>
  (Option.bind (HS.ldSl p47 p58) fun p59 =>
  (Option.bind (y3) fun p60 =>
  (Option.bind (HS.ldSl p47 p60) fun p61 =>
  (Option.bind (y10) fun p62 =>
  (Option.bind (HS.ldI p47 .i64 p62) fun p63 =>
  (Option.bind (HS.idx p47 p59 (w64 ((w64 ((Sl.len p61 : Int) - 1)) - p63)) 1) fun p64 =>
  (Option.bind (HS.ldI p47 .i64 p64) fun p65 =>
  J3 D H k l y5 y10 y11 (decide (y52 = p65)) p47)))))))) else
  J3 D H k l y5 y10 y11 false p47)))))))))
theorem J2_snd {D : Dp} {H : Hd} {k : Nat} {l : Nat} (hD : DSound Try.prog base W0 D) (hH : HSound Try.prog base W0 β0 H)  {y3 : (Option HA)} {y4 : (Option HA)} {y5 : (Option HA)} {y8 : (Option HA)} {y10 : (Option HA)} {y11 : (Option HA)} {y52 : Int} {S : HS} {p : HV × HS} {g0 g1 g2 g6 g7 g9 g12 g13 g14 g15 g16 g17 g18 g19 g20 g21 g22 g23 g24 g25 g26 g27 g28 g29 g30 g31 g32 g33 g34 g35 g36 g37 g38 g39 g40 g41 g42 g43 g44 g45 g46 g47 g48 g49 g50 g51 g53 g54 g55 g56 g57 g58 g59 g60 g61 g62 g63 g64 g65 g66 g67 g68 g69 g70 g71 g72 g73 g74 g75 g76 g77 g78 g79 g80 g81 g82 g83 g84 g85 g86 g87 g88 g89 g90 g91 g92 g93 g94 g95 g96 g97 g98 g99 g100 g101 g102 : HV} (h : J2 D H k l y3 y4 y5 y8 y10 y11 y52 S = some p) : HRun Try.prog base W0 β0 4 (some l) [.code c56, .beginRound, .code c57] ⟨[g0, g1, g2, (.ptr y3), (.ptr y4), (.ptr y5), g6, g7, (.ptr y8), g9, (.ptr y10), (.ptr y11), g12, g13, g14, g15, g16, g17, g18, g19, g20, g21, g22, g23, g24, g25, g26, g27, g28, g29, g30, g31, g32, g33, g34, g35, g36, g37, g38, g39, g40, g41, g42, g43, g44, g45, g46, g47, g48, g49, g50, g51, (.int .i64 y52), g53, g54, g55, g56, g57, g58, g59, g60, g61, g62, g63, g64, g65, g66, g67, g68, g69, g70, g71, g72, g73, g74, g75, g76, g77, g78, g79, g80, g81, g82, g83, g84, g85, g86, g87, g88, g89, g90, g91, g92, g93, g94, g95, g96, g97, g98, g99, g100, g101, g102], []⟩ S (fun v S1 => v = p.1 ∧ S1 = p.2) := by
  unfold J2 at h
  refine q_region e56 rfl ?_
  refine q_op (dst := some 13) rfl (fun _ ho => ok_assign ho (.tmp rfl)) ?_
  refine hr_region_end ?_
  try dsimp only [HAct.put, List.set_cons_zero, List.set_cons_succ]
  obtain ⟨p47, hp47, h⟩ := bindo h
  refine q_begin hp47 ?_
  refine q_block e57 ?_
  refine q_seq e58 ?_
  refine q_seq e59 ?_
  refine q_region e60 rfl ?_
  obtain ⟨p48, hp48, h⟩ := bindo h
  obtain ⟨p49, hp49, h⟩ := bindo h
  refine q_op (dst := some 53) rfl (fun _ ho => ok_load_s ho sc3 (.tmp rfl) hp48 (ldI_out hp49)) ?_
  obtain ⟨p50, hp50, h⟩ := bindo h
  obtain ⟨p51, hp51, h⟩ := bindo h
  refine q_op (dst := some 54) rfl (fun _ ho => ok_load_s ho sc3 (.tmp rfl) hp50 (ldI_out hp51)) ?_
  refine q_op (dst := some 55) rfl (fun _ ho => ok_ibin ho (.tmp rfl) (.tmp rfl) rfl) ?_
  refine hr_region_end ?_
  try dsimp only [HAct.put, List.set_cons_zero, List.set_cons_succ]
  rcases ifc h with ⟨hc52, h⟩ | ⟨hc52, h⟩
  · refine q_cond_t e61 (.tmp rfl) (decide_eq_true hc52) ?_
    refine q_seq e62 ?_
    refine q_region e63 rfl ?_
    obtain ⟨p53, hp53, h⟩ := bindo h
    obtain ⟨p54, hp54, h⟩ := bindo h
    refine q_op (dst := none) rfl (fun _ ho => ok_store_s (v := (.bool false)) ho sz4 (.tmp rfl) hp53 (.bool _) rfl hp54) ?_
    refine hr_region_end ?_
    try dsimp only [HAct.put, List.set_cons_zero, List.set_cons_succ]
    exact q_round_ret e64 h ⟨rfl, rfl⟩
  · refine q_cond_f e61 (.tmp rfl) (decide_eq_false hc52) ?_
    refine q_skipc e65 ?_
    refine q_seq e66 ?_
    refine q_region e67 rfl ?_
    obtain ⟨p55, hp55, h⟩ := bindo h
    obtain ⟨p56, hp56, h⟩ := bindo h
    refine q_op (dst := some 56) rfl (fun _ ho => ok_load_s ho sc4 (.tmp rfl) hp55 (ldB_out hp56)) ?_
    refine q_op (dst := some 57) rfl (fun _ ho => ok_move ho (.tmp rfl)) ?_
    rcases ifc h with ⟨hc57, h⟩ | ⟨hc57, h⟩
    · refine q_op_g (t := 57) (dst := some 58) rfl rfl rfl hc57 (fun _ ho => ok_move ho (.tmp rfl)) ?_
      obtain ⟨p58, hp58, h⟩ := bindo h
      obtain ⟨p59, hp59, h⟩ := bindo h
      refine q_op_g (t := 57) (dst := some 59) rfl rfl rfl hc57 (fun _ ho => ok_load_s ho sc35 (.tmp rfl) hp58 (ldSl_out hp59)) ?_
      try dsimp only [HAct.put, List.set_cons_zero, List.set_cons_succ]
      obtain ⟨p60, hp60, h⟩ := bindo h
      obtain ⟨p61, hp61, h⟩ := bindo h
      refine q_op_g (t := 57) (dst := some 60) rfl rfl rfl hc57 (fun _ ho => ok_load_s ho sc35 (.tmp rfl) hp60 (ldSl_out hp61)) ?_
      refine q_op_g (t := 57) (dst := some 61) rfl rfl rfl hc57 (fun _ ho => ok_len_sl (q := Sl.a p61) (n := Sl.len p61) (z := Sl.cap p61) ho rfl tu35 (.tmp rfl)) ?_
      refine q_op_g (t := 57) (dst := some 62) rfl rfl rfl hc57 (fun _ ho => ok_ibin ho (.tmp rfl) (.int _ _) rfl) ?_
      obtain ⟨p62, hp62, h⟩ := bindo h
      obtain ⟨p63, hp63, h⟩ := bindo h
      refine q_op_g (t := 57) (dst := some 63) rfl rfl rfl hc57 (fun _ ho => ok_load_s ho sc3 (.tmp rfl) hp62 (ldI_out hp63)) ?_
      try dsimp only [HAct.put, List.set_cons_zero, List.set_cons_succ]
      refine q_op_g (t := 57) (dst := some 64) rfl rfl rfl hc57 (fun _ ho => ok_ibin ho (.tmp rfl) (.tmp rfl) rfl) ?_
      obtain ⟨p64, hp64, h⟩ := bindo h
      refine q_op_g (t := 57) (dst := some 65) rfl rfl rfl hc57 (fun _ ho => ok_indexAddr (s := p59) ho tu35 sz3 (.tmp rfl) (.tmp rfl) hp64) ?_
      obtain ⟨p65, hp65, h⟩ := bindo h
      refine q_op_g (t := 57) (dst := some 66) rfl rfl rfl hc57 (fun _ ho => ok_load_s ho sc3 (.tmp rfl) rfl (ldI_out hp65)) ?_
      refine q_op_g (t := 57) (dst := some 67) rfl rfl rfl hc57 (fun _ ho => ok_ibin ho (.tmp rfl) (.tmp rfl) rfl) ?_
      try dsimp only [HAct.put, List.set_cons_zero, List.set_cons_succ]
      refine q_op (dst := some 68) rfl (fun _ ho => ok_pick_tt ho (.tmp rfl) hc57 (.tmp rfl)) ?_
      try dsimp only [HAct.put, List.set_cons_zero, List.set_cons_succ]
      exact J3_snd hD hH h
    · refine q_skip (dst := some 58) (t := 57) rfl rfl rfl (bfalse hc57) ?_
      refine q_skip (dst := some 59) (t := 57) rfl rfl rfl (bfalse hc57) ?_
      try dsimp only [HAct.put, List.set_cons_zero, List.set_cons_succ]
      refine q_skip (dst := some 60) (t := 57) rfl rfl rfl (bfalse hc57) ?_
      refine q_skip (dst := some 61) (t := 57) rfl rfl rfl (bfalse hc57) ?_
      refine q_skip (dst := some 62) (t := 57) rfl rfl rfl (bfalse hc57) ?_
      refine q_skip (dst := some 63) (t := 57) rfl rfl rfl (bfalse hc57) ?_
      try dsimp only [HAct.put, List.set_cons_zero, List.set_cons_succ]
      refine q_skip (dst := some 64) (t := 57) rfl rfl rfl (bfalse hc57) ?_
      refine q_skip (dst := some 65) (t := 57) rfl rfl rfl (bfalse hc57) ?_
      refine q_skip (dst := some 66) (t := 57) rfl rfl rfl (bfalse hc57) ?_
      refine q_skip (dst := some 67) (t := 57) rfl rfl rfl (bfalse hc57) ?_
      try dsimp only [HAct.put, List.set_cons_zero, List.set_cons_succ]
      refine q_op (dst := some 68) rfl (fun _ ho => ok_pick_ff ho (.tmp rfl) (bfalse hc57) (.bool _)) ?_
      try dsimp only [HAct.put, List.set_cons_zero, List.set_cons_succ]
      exact J3_snd hD hH h
def J8 (D : Dp) (H : Hd) (k : Nat) (y4 : (Option HA)) (y102 : Bool) (ds : List Nat) (S : HS) : Option ((Bool) × HS) :=
  (Option.bind (y4) fun p99 =>
  (Option.bind (HS.sets S p99 [(.bool y102)]) fun p100 =>
  (Option.bind (HS.leave p100 ds) fun p101 =>
  (Option.bind (y4) fun p102 =>
  (Option.bind (HS.ldB p101 p102) fun p103 =>
  some (p103, p101))))))
theorem J8_snd {D : Dp} {H : Hd} {k : Nat} (hD : DSound Try.prog base W0 D) (hH : HSound Try.prog base W0 β0 H)  {y4 : (Option HA)} {y102 : Bool} {ds : List Nat} {S : HS} {p : (Bool) × HS} {g0 g1 g2 g3 g5 g6 g7 g8 g9 g10 g11 g12 g13 g14 g15 g16 g17 g18 g19 g20 g21 g22 g23 g24 g25 g26 g27 g28 g29 g30 g31 g32 g33 g34 g35 g36 g37 g38 g39 g40 g41 g42 g43 g44 g45 g46 g47 g48 g49 g50 g51 g52 g53 g54 g55 g56 g57 g58 g59 g60 g61 g62 g63 g64 g65 g66 g67 g68 g69 g70 g71 g72 g73 g74 g75 g76 g77 g78 g79 g80 g81 g82 g83 g84 g85 g86 g87 g88 g89 g90 g91 g92 g93 g94 g95 g96 g97 g98 g99 g100 g101 : HV} (h : J8 D H k y4 y102 ds S = some p) : HRun Try.prog base W0 β0 4 none [.inRegion r76 [28], .code c77] ⟨[g0, g1, g2, g3, (.ptr y4), g5, g6, g7, g8, g9, g10, g11, g12, g13, g14, g15, g16, g17, g18, g19, g20, g21, g22, g23, g24, g25, g26, g27, g28, g29, g30, g31, g32, g33, g34, g35, g36, g37, g38, g39, g40, g41, g42, g43, g44, g45, g46, g47, g48, g49, g50, g51, g52, g53, g54, g55, g56, g57, g58, g59, g60, g61, g62, g63, g64, g65, g66, g67, g68, g69, g70, g71, g72, g73, g74, g75, g76, g77, g78, g79, g80, g81, g82, g83, g84, g85, g86, g87, g88, g89, g90, g91, g92, g93, g94, g95, g96, g97, g98, g99, g100, g101, (.bool y102)], ds⟩ S (fun v S1 => v = (.bool p.1) ∧ S1 = p.2) := by
  unfold J8 at h
  obtain ⟨p99, hp99, h⟩ := bindo h
  obtain ⟨p100, hp100, h⟩ := bindo h
  refine q_op (dst := none) rfl (fun _ ho => ok_store_s (v := (.bool y102)) ho sz4 (.tmp rfl) hp99 (.tmp rfl) rfl hp100) ?_
  refine hr_region_end ?_
  try dsimp only [HAct.put, List.set_cons_zero, List.set_cons_succ]
  obtain ⟨p101, hp101, h⟩ := bindo h
  obtain ⟨p102, hp102, h⟩ := bindo h
  obtain ⟨p103, hp103, h⟩ := bindo h
  cases h
  exact q_ret e77 at_.at_ hp101 (resL1 rfl (.cell rfl hp102 sc4 (ldB_out hp103))) ⟨rfl, rfl⟩
def J7 (D : Dp) (H : Hd) (k : Nat) (y4 : (Option HA)) (y14 : (Option HA)) (y98 : Bool) (ds : List Nat) (S : HS) : Option ((Bool) × HS) :=
  (if y98 = true then
  (Option.bind (rollcalllaw13_same.f D H k y14 Sl.nil ([120] : List UInt8) false S) fun p98 =>
  J8 D H k y4 p98.1 ds p98.2) else
  J8 D H k y4 false ds S)
theorem J7_snd {D : Dp} {H : Hd} {k : Nat} (hD : DSound Try.prog base W0 D) (hH : HSound Try.prog base W0 β0 H)  {y4 : (Option HA)} {y14 : (Option HA)} {y98 : Bool} {ds : List Nat} {S : HS} {p : (Bool) × HS} {g0 g1 g2 g3 g5 g6 g7 g8 g9 g10 g11 g12 g13 g15 g16 g17 g18 g19 g20 g21 g22 g23 g24 g25 g26 g27 g28 g29 g30 g31 g32 g33 g34 g35 g36 g37 g38 g39 g40 g41 g42 g43 g44 g45 g46 g47 g48 g49 g50 g51 g52 g53 g54 g55 g56 g57 g58 g59 g60 g61 g62 g63 g64 g65 g66 g67 g68 g69 g70 g71 g72 g73 g74 g75 g76 g77 g78 g79 g80 g81 g82 g83 g84 g85 g86 g87 g88 g89 g90 g91 g92 g93 g94 g95 g96 g97 g99 g100 g101 g102 : HV} (h : J7 D H k y4 y14 y98 ds S = some p) : HRun Try.prog base W0 β0 4 none [.inRegion r76 [24, 25, 26, 27, 28], .code c77] ⟨[g0, g1, g2, g3, (.ptr y4), g5, g6, g7, g8, g9, g10, g11, g12, g13, (.ptr y14), g15, g16, g17, g18, g19, g20, g21, g22, g23, g24, g25, g26, g27, g28, g29, g30, g31, g32, g33, g34, g35, g36, g37, g38, g39, g40, g41, g42, g43, g44, g45, g46, g47, g48, g49, g50, g51, g52, g53, g54, g55, g56, g57, g58, g59, g60, g61, g62, g63, g64, g65, g66, g67, g68, g69, g70, g71, g72, g73, g74, g75, g76, g77, g78, g79, g80, g81, g82, g83, g84, g85, g86, g87, g88, g89, g90, g91, g92, g93, g94, g95, g96, g97, (.bool y98), g99, g100, g101, g102], ds⟩ S (fun v S1 => v = (.bool p.1) ∧ S1 = p.2) := by
  unfold J7 at h
  refine q_op (dst := some 99) rfl (fun _ ho => ok_move ho (.tmp rfl)) ?_
  rcases ifc h with ⟨hc97, h⟩ | ⟨hc97, h⟩
  · refine q_op_g (t := 99) (dst := some 100) rfl rfl rfl hc97 (fun _ ho => ok_move ho (.tmp rfl)) ?_
    obtain ⟨p98, hp98, h⟩ := bindo h
    refine q_call_g (t := 99) (dst := some 101) rfl rfl rfl hc97 (.func _) (.cons (.tmp rfl) (.cons (.const fun _ => .slNil none) (.cons (.str _) (.cons (.bool _) Evs.nil)))) (HInv.static rollcalllaw13_same.at_ rollcalllaw13_same.body (rollcalllaw13_same.snd hD hH hp98)) ?_
    rintro _ _ ⟨rfl, rfl⟩
    refine q_op (dst := some 102) rfl (fun _ ho => ok_pick_tt ho (.tmp rfl) hc97 (.tmp rfl)) ?_
    try dsimp only [HAct.put, List.set_cons_zero, List.set_cons_succ]
    try dsimp only [HAct.put, List.set_cons_zero, List.set_cons_succ]
    exact J8_snd hD hH h
  · refine q_skip (dst := some 100) (t := 99) rfl rfl rfl (bfalse hc97) ?_
    refine q_skip (dst := some 101) (t := 99) rfl rfl rfl (bfalse hc97) ?_
    refine q_op (dst := some 102) rfl (fun _ ho => ok_pick_ff ho (.tmp rfl) (bfalse hc97) (.bool _)) ?_
    try dsimp only [HAct.put, List.set_cons_zero, List.set_cons_succ]
    try dsimp only [HAct.put, List.set_cons_zero, List.set_cons_succ]
    exact J8_snd hD hH h
def J6 (D : Dp) (H : Hd) (k : Nat) (y4 : (Option HA)) (y14 : (Option HA)) (y94 : Bool) (ds : List Nat) (S : HS) : Option ((Bool) × HS) :=
  (if y94 = true then
  (Option.bind (rollcalllaw13_same.f D H k y14 Sl.nil ([120] : List UInt8) true S) fun p96 =>
  J7 D H k y4 y14 p96.1 ds p96.2) else
  J7 D H k y4 y14 false ds S)
theorem J6_snd {D : Dp} {H : Hd} {k : Nat} (hD : DSound Try.prog base W0 D) (hH : HSound Try.prog base W0 β0 H)  {y4 : (Option HA)} {y14 : (Option HA)} {y94 : Bool} {ds : List Nat} {S : HS} {p : (Bool) × HS} {g0 g1 g2 g3 g5 g6 g7 g8 g9 g10 g11 g12 g13 g15 g16 g17 g18 g19 g20 g21 g22 g23 g24 g25 g26 g27 g28 g29 g30 g31 g32 g33 g34 g35 g36 g37 g38 g39 g40 g41 g42 g43 g44 g45 g46 g47 g48 g49 g50 g51 g52 g53 g54 g55 g56 g57 g58 g59 g60 g61 g62 g63 g64 g65 g66 g67 g68 g69 g70 g71 g72 g73 g74 g75 g76 g77 g78 g79 g80 g81 g82 g83 g84 g85 g86 g87 g88 g89 g90 g91 g92 g93 g95 g96 g97 g98 g99 g100 g101 g102 : HV} (h : J6 D H k y4 y14 y94 ds S = some p) : HRun Try.prog base W0 β0 4 none [.inRegion r76 [20, 21, 22, 23, 24, 25, 26, 27, 28], .code c77] ⟨[g0, g1, g2, g3, (.ptr y4), g5, g6, g7, g8, g9, g10, g11, g12, g13, (.ptr y14), g15, g16, g17, g18, g19, g20, g21, g22, g23, g24, g25, g26, g27, g28, g29, g30, g31, g32, g33, g34, g35, g36, g37, g38, g39, g40, g41, g42, g43, g44, g45, g46, g47, g48, g49, g50, g51, g52, g53, g54, g55, g56, g57, g58, g59, g60, g61, g62, g63, g64, g65, g66, g67, g68, g69, g70, g71, g72, g73, g74, g75, g76, g77, g78, g79, g80, g81, g82, g83, g84, g85, g86, g87, g88, g89, g90, g91, g92, g93, (.bool y94), g95, g96, g97, g98, g99, g100, g101, g102], ds⟩ S (fun v S1 => v = (.bool p.1) ∧ S1 = p.2) := by
  unfold J6 at h
  refine q_op (dst := some 95) rfl (fun _ ho => ok_move ho (.tmp rfl)) ?_
  rcases ifc h with ⟨hc95, h⟩ | ⟨hc95, h⟩
  · refine q_op_g (t := 95) (dst := some 96) rfl rfl rfl hc95 (fun _ ho => ok_move ho (.tmp rfl)) ?_
    obtain ⟨p96, hp96, h⟩ := bindo h
    refine q_call_g (t := 95) (dst := some 97) rfl rfl rfl hc95 (.func _) (.cons (.tmp rfl) (.cons (.const fun _ => .slNil none) (.cons (.str _) (.cons (.bool _) Evs.nil)))) (HInv.static rollcalllaw13_same.at_ rollcalllaw13_same.body (rollcalllaw13_same.snd hD hH hp96)) ?_
    rintro _ _ ⟨rfl, rfl⟩
    refine q_op (dst := some 98) rfl (fun _ ho => ok_pick_tt ho (.tmp rfl) hc95 (.tmp rfl)) ?_
    try dsimp only [HAct.put, List.set_cons_zero, List.set_cons_succ]
    try dsimp only [HAct.put, List.set_cons_zero, List.set_cons_succ]
    exact J7_snd hD hH h
  · refine q_skip (dst := some 96) (t := 95) rfl rfl rfl (bfalse hc95) ?_
    refine q_skip (dst := some 97) (t := 95) rfl rfl rfl (bfalse hc95) ?_
    refine q_op (dst := some 98) rfl (fun _ ho => ok_pick_ff ho (.tmp rfl) (bfalse hc95) (.bool _)) ?_
    try dsimp only [HAct.put, List.set_cons_zero, List.set_cons_succ]
    try dsimp only [HAct.put, List.set_cons_zero, List.set_cons_succ]
    exact J7_snd hD hH h
def J5 (D : Dp) (H : Hd) (k : Nat) (y4 : (Option HA)) (y14 : (Option HA)) (y89 : Bool) (ds : List Nat) (S : HS) : Option ((Bool) × HS) :=
  (if y89 = true then
  (Option.bind (was_Past_int_Len.f y14 S) fun p94 =>
  J6 D H k y4 y14 (decide (p94.1 = 0)) ds p94.2) else
  J6 D H k y4 y14 false ds S)
theorem J5_snd {D : Dp} {H : Hd} {k : Nat} (hD : DSound Try.prog base W0 D) (hH : HSound Try.prog base W0 β0 H)  {y4 : (Option HA)} {y14 : (Option HA)} {y89 : Bool} {ds : List Nat} {S : HS} {p : (Bool) × HS} {g0 g1 g2 g3 g5 g6 g7 g8 g9 g10 g11 g12 g13 g15 g16 g17 g18 g19 g20 g21 g22 g23 g24 g25 g26 g27 g28 g29 g30 g31 g32 g33 g34 g35 g36 g37 g38 g39 g40 g41 g42 g43 g44 g45 g46 g47 g48 g49 g50 g51 g52 g53 g54 g55 g56 g57 g58 g59 g60 g61 g62 g63 g64 g65 g66 g67 g68 g69 g70 g71 g72 g73 g74 g75 g76 g77 g78 g79 g80 g81 g82 g83 g84 g85 g86 g87 g88 g90 g91 g92 g93 g94 g95 g96 g97 g98 g99 g100 g101 g102 : HV} (h : J5 D H k y4 y14 y89 ds S = some p) : HRun Try.prog base W0 β0 4 none [.inRegion r76 [15, 16, 17, 18, 19, 20, 21, 22, 23, 24, 25, 26, 27, 28], .code c77] ⟨[g0, g1, g2, g3, (.ptr y4), g5, g6, g7, g8, g9, g10, g11, g12, g13, (.ptr y14), g15, g16, g17, g18, g19, g20, g21, g22, g23, g24, g25, g26, g27, g28, g29, g30, g31, g32, g33, g34, g35, g36, g37, g38, g39, g40, g41, g42, g43, g44, g45, g46, g47, g48, g49, g50, g51, g52, g53, g54, g55, g56, g57, g58, g59, g60, g61, g62, g63, g64, g65, g66, g67, g68, g69, g70, g71, g72, g73, g74, g75, g76, g77, g78, g79, g80, g81, g82, g83, g84, g85, g86, g87, g88, (.bool y89), g90, g91, g92, g93, g94, g95, g96, g97, g98, g99, g100, g101, g102], ds⟩ S (fun v S1 => v = (.bool p.1) ∧ S1 = p.2) := by
  unfold J5 at h
  refine q_op (dst := some 90) rfl (fun _ ho => ok_move ho (.tmp rfl)) ?_
  try dsimp only [HAct.put, List.set_cons_zero, List.set_cons_succ]
  rcases ifc h with ⟨hc93, h⟩ | ⟨hc93, h⟩
  · refine q_op_g (t := 90) (dst := some 91) rfl rfl rfl hc93 (fun _ ho => ok_move ho (.tmp rfl)) ?_
    obtain ⟨p94, hp94, h⟩ := bindo h
    refine q_call_g (t := 90) (dst := some 92) rfl rfl rfl hc93 (.func _) (.cons (.tmp rfl) Evs.nil) (HInv.static was_Past_int_Len.at_ was_Past_int_Len.body (was_Past_int_Len.snd  hp94)) ?_
    rintro _ _ ⟨rfl, rfl⟩
    refine q_op_g (t := 90) (dst := some 93) rfl rfl rfl hc93 (fun _ ho => ok_ibin ho (.tmp rfl) (.int _ _) rfl) ?_
    refine q_op (dst := some 94) rfl (fun _ ho => ok_pick_tt ho (.tmp rfl) hc93 (.tmp rfl)) ?_
    try dsimp only [HAct.put, List.set_cons_zero, List.set_cons_succ]
    try dsimp only [HAct.put, List.set_cons_zero, List.set_cons_succ]
    exact J6_snd hD hH h
  · refine q_skip (dst := some 91) (t := 90) rfl rfl rfl (bfalse hc93) ?_
    refine q_skip (dst := some 92) (t := 90) rfl rfl rfl (bfalse hc93) ?_
    refine q_skip (dst := some 93) (t := 90) rfl rfl rfl (bfalse hc93) ?_
    refine q_op (dst := some 94) rfl (fun _ ho => ok_pick_ff ho (.tmp rfl) (bfalse hc93) (.bool _)) ?_
    try dsimp only [HAct.put, List.set_cons_zero, List.set_cons_succ]
    try dsimp only [HAct.put, List.set_cons_zero, List.set_cons_succ]
    exact J6_snd hD hH h
def J4 (D : Dp) (H : Hd) (k : Nat) (y0 : Int) (y3 : (Option HA)) (y4 : (Option HA)) (y8 : (Option HA)) (y14 : (Option HA)) (y80 : Bool) (ds : List Nat) (S : HS) : Option ((Bool) × HS) :=
  (if y80 = true then
  (Option.bind (y8) fun p89 =>
  (Option.bind (HS.ldI S .i64 p89) fun p90 =>
  (Option.bind (y3) fun p91 =>
  (Option.bind (HS.ldSl S p91) fun p92 =>
  J5 D H k y4 y14 (decide (p90 = (mn (Sl.len p92 : Int) (w64 y0)))) ds S)))) else
  J5 D H k y4 y14 false ds S)
theorem J4_snd {D : Dp} {H : Hd} {k : Nat} (hD : DSound Try.prog base W0 D) (hH : HSound Try.prog base W0 β0 H)  {y0 : Int} {y3 : (Option HA)} {y4 : (Option HA)} {y8 : (Option HA)} {y14 : (Option HA)} {y80 : Bool} {ds : List Nat} {S : HS} {p : (Bool) × HS} {g1 g2 g5 g6 g7 g9 g10 g11 g12 g13 g15 g16 g17 g18 g19 g20 g21 g22 g23 g24 g25 g26 g27 g28 g29 g30 g31 g32 g33 g34 g35 g36 g37 g38 g39 g40 g41 g42 g43 g44 g45 g46 g47 g48 g49 g50 g51 g52 g53 g54 g55 g56 g57 g58 g59 g60 g61 g62 g63 g64 g65 g66 g67 g68 g69 g70 g71 g72 g73 g74 g75 g76 g77 g78 g79 g81 g82 g83 g84 g85 g86 g87 g88 g89 g90 g91 g92 g93 g94 g95 g96 g97 g98 g99 g100 g101 g102 : HV} (h : J4 D H k y0 y3 y4 y8 y14 y80 ds S = some p) : HRun Try.prog base W0 β0 4 none [.inRegion r76 [6, 7, 8, 9, 10, 11, 12, 13, 14, 15, 16, 17, 18, 19, 20, 21, 22, 23, 24, 25, 26, 27, 28], .code c77] ⟨[(.int .u8 y0), g1, g2, (.ptr y3), (.ptr y4), g5, g6, g7, (.ptr y8), g9, g10, g11, g12, g13, (.ptr y14), g15, g16, g17, g18, g19, g20, g21, g22, g23, g24, g25, g26, g27, g28, g29, g30, g31, g32, g33, g34, g35, g36, g37, g38, g39, g40, g41, g42, g43, g44, g45, g46, g47, g48, g49, g50, g51, g52, g53, g54, g55, g56, g57, g58, g59, g60, g61, g62, g63, g64, g65, g66, g67, g68, g69, g70, g71, g72, g73, g74, g75, g76, g77, g78, g79, (.bool y80), g81, g82, g83, g84, g85, g86, g87, g88, g89, g90, g91, g92, g93, g94, g95, g96, g97, g98, g99, g100, g101, g102], ds⟩ S (fun v S1 => v = (.bool p.1) ∧ S1 = p.2) := by
  unfold J4 at h
  refine q_op (dst := some 81) rfl (fun _ ho => ok_move ho (.tmp rfl)) ?_
  rcases ifc h with ⟨hc88, h⟩ | ⟨hc88, h⟩
  · obtain ⟨p89, hp89, h⟩ := bindo h
    obtain ⟨p90, hp90, h⟩ := bindo h
    refine q_op_g (t := 81) (dst := some 82) rfl rfl rfl hc88 (fun _ ho => ok_load_s ho sc3 (.tmp rfl) hp89 (ldI_out hp90)) ?_
    try dsimp only [HAct.put, List.set_cons_zero, List.set_cons_succ]
    obtain ⟨p91, hp91, h⟩ := bindo h
    obtain ⟨p92, hp92, h⟩ := bindo h
    refine q_op_g (t := 81) (dst := some 83) rfl rfl rfl hc88 (fun _ ho => ok_load_s ho sc35 (.tmp rfl) hp91 (ldSl_out hp92)) ?_
    refine q_op_g (t := 81) (dst := some 84) rfl rfl rfl hc88 (fun _ ho => ok_len_sl (q := Sl.a p92) (n := Sl.len p92) (z := Sl.cap p92) ho rfl tu35 (.tmp rfl)) ?_
    refine q_op_g (t := 81) (dst := some 85) rfl rfl rfl hc88 (fun _ ho => ok_move ho (.tmp rfl)) ?_
    refine q_op_g (t := 81) (dst := some 86) rfl rfl rfl hc88 (fun _ ho => ok_conv_int ho tu5 tu3 (.tmp rfl)) ?_
    try dsimp only [HAct.put, List.set_cons_zero, List.set_cons_succ]
    refine q_op_g (t := 81) (dst := some 87) rfl rfl rfl hc88 (fun _ ho => ok_min ho (.tmp rfl) (.tmp rfl)) ?_
    refine q_op_g (t := 81) (dst := some 88) rfl rfl rfl hc88 (fun _ ho => ok_ibin ho (.tmp rfl) (.tmp rfl) rfl) ?_
    refine q_op (dst := some 89) rfl (fun _ ho => ok_pick_tt ho (.tmp rfl) hc88 (.tmp rfl)) ?_
    try dsimp only [HAct.put, List.set_cons_zero, List.set_cons_succ]
    exact J5_snd hD hH h
  · refine q_skip (dst := some 82) (t := 81) rfl rfl rfl (bfalse hc88) ?_
    try dsimp only [HAct.put, List.set_cons_zero, List.set_cons_succ]
    refine q_skip (dst := some 83) (t := 81) rfl rfl rfl (bfalse hc88) ?_
    refine q_skip (dst := some 84) (t := 81) rfl rfl rfl (bfalse hc88) ?_
    refine q_skip (dst := some 85) (t := 81) rfl rfl rfl (bfalse hc88) ?_
    refine q_skip (dst := some 86) (t := 81) rfl rfl rfl (bfalse hc88) ?_
    try dsimp only [HAct.put, List.set_cons_zero, List.set_cons_succ]
    refine q_skip (dst := some 87) (t := 81) rfl rfl rfl (bfalse hc88) ?_
    refine q_skip (dst := some 88) (t := 81) rfl rfl rfl (bfalse hc88) ?_
    refine q_op (dst := some 89) rfl (fun _ ho => ok_pick_ff ho (.tmp rfl) (bfalse hc88) (.bool _)) ?_
    try dsimp only [HAct.put, List.set_cons_zero, List.set_cons_succ]
    exact J5_snd hD hH h
def L1 (D : Dp) (H : Hd) (k : Nat) : Nat → Int → (Option HA) → (Option HA) → (Option HA) → Int → List Nat → HS → Option ((Bool) × HS)
  | 0, _, _, _, _, _, _, _ => none
  | n + 1, y0, y3, y4, y5, y7, ds, S =>
    (Option.bind (y3) fun p18 =>
    (Option.bind (HS.ldSl S p18) fun p19 =>
    (if y7 < (Sl.len p19 : Int) then
    (Option.bind (y5) fun p21 =>
    (Option.bind (HS.ldP S p21) fun p22 =>
    (Option.bind (y3) fun p23 =>
    (Option.bind (HS.ldSl S p23) fun p24 =>
    (Option.bind (HS.idx S p24 y7 1) fun p25 =>
    (Option.bind (HS.ldI S .i64 p25) fun p26 =>
    (Option.bind (was_Past_int_Put.f p22 ([120] : List UInt8) p26 S) fun p27 =>
    (L1 D H k n) y0 y3 y4 y5 (w64 (y7 + 1)) ds p27.2))))))) else
    (Option.bind (y5) fun p28 =>
    (Option.bind (HS.ldP S p28) fun p29 =>
    (Option.bind (was_Past_int_Len.f p29 S) fun p30 =>
    (letv (HS.new p30.2 (.cells 1 [[(.int .i64 0)]] true)) fun p31 =>
    (Option.bind (HS.sets p31 (HA.cell0 p30.2.next) [(.int .i64 p30.1)]) fun p32 =>
    (Option.bind (y5) fun p33 =>
    (Option.bind (HS.ldP p32 p33) fun p34 =>
    (Option.bind (was_Past_int_All.f k p34 p32) fun p35 =>
    (Option.bind (HV.isNilFn p35.1) fun p36 =>
    (if (p36) = true then
    (Option.bind (y4) fun p38 =>
    (Option.bind (HS.sets p35.2 p38 [(.bool false)]) fun p39 =>
    (Option.bind (HS.leave p39 ds) fun p40 =>
    (Option.bind (y4) fun p41 =>
    (Option.bind (HS.ldB p40 p41) fun p42 =>
    some (p42, p40)))))) else
    (letv (HS.new p35.2 (.cells 1 [[(.int .i64 0)]] true)) fun p43 =>
    (Option.bind (HS.sets p43 (HA.cell0 p35.2.next) [(.int .i64 0)]) fun p44 =>
    (letv (HS.new p44 (.cells 1 [[(.bool false)]] true)) fun p45 =>
    (Option.bind (HS.sets p45 (HA.cell0 p44.next) [(.bool true)]) fun p46 =>
    (Option.bind (D (Hd.set H (HS.next p46 + 1) fun vs T =>
    (Option.bind (HS.lp T (HS.next p46 + 1)) fun u78 =>
    (Option.bind (args2 vs) fun ar75 =>
    (Option.bind (dS ar75.1) fun p76 =>
    (Option.bind (dI .i64 ar75.2) fun p77 =>
    (J2 D H k (HS.next p46 + 1) y3 y4 y5 (some (HA.cell0 p30.2.next)) (some (HA.cell0 p35.2.next)) (some (HA.cell0 p44.next)) p77 T)))))) p35.1 [.fn (.yield (HS.next p46 + 1)) [] []] (HS.new (HS.new p46 .defer) (.loop .ready none))) fun p79 =>
    (Option.bind (HS.finish p79.2 (HS.next p46 + 1)) fun p80 =>
    (Option.bind (pcode p80.1) fun n81 =>
    (if n81 = 0 then
    (Option.bind (was_Past_int_Put.f none ([120] : List UInt8) 1 p80.2) fun p83 =>
    (Option.bind (HS.ldB p83.2 (HA.cell0 p44.next)) fun p84 =>
    (if p84 = true then
    (Option.bind (HS.ldI p83.2 .i64 (HA.cell0 p35.2.next)) fun p86 =>
    (Option.bind (HS.ldI p83.2 .i64 (HA.cell0 p30.2.next)) fun p87 =>
    J4 D H k y0 y3 y4 (some (HA.cell0 p30.2.next)) none (decide (p86 = p87)) (HS.next p46 :: ds) p83.2)) else
    J4 D H k y0 y3 y4 (some (HA.cell0 p30.2.next)) none false (HS.next p46 :: ds) p83.2))) else
    (if n81 = 1 then
    (Option.bind (HS.leave p80.2 (HS.next p46 :: ds)) fun p105 =>
    (Option.bind (y4) fun p106 =>
    (Option.bind (HS.ldB p105 p106) fun p107 =>
    some (p107, p105)))) else
    none))))))))))))))))))))))
theorem L1_snd {D : Dp} {H : Hd} {k : Nat} (hD : DSound Try.prog base W0 D) (hH : HSound Try.prog base W0 β0 H)  : ∀ {n : Nat} ⦃y0 : Int⦄ ⦃y3 : (Option HA)⦄ ⦃y4 : (Option HA)⦄ ⦃y5 : (Option HA)⦄ ⦃y7 : Int⦄ ⦃ds : List Nat⦄ ⦃S : HS⦄ ⦃p : (Bool) × HS⦄ ⦃g1 g2 g6 g8 g9 g10 g11 g12 g13 g14 g15 g16 g17 g18 g19 g20 g21 g22 g23 g24 g25 g26 g27 g28 g29 g30 g31 g32 g33 g34 g35 g36 g37 g38 g39 g40 g41 g42 g43 g44 g45 g46 g47 g48 g49 g50 g51 g52 g53 g54 g55 g56 g57 g58 g59 g60 g61 g62 g63 g64 g65 g66 g67 g68 g69 g70 g71 g72 g73 g74 g75 g76 g77 g78 g79 g80 g81 g82 g83 g84 g85 g86 g87 g88 g89 g90 g91 g92 g93 g94 g95 g96 g97 g98 g99 g100 g101 g102 : HV⦄, L1 D H k n y0 y3 y4 y5 y7 ds S = some p → HRun Try.prog base W0 β0 4 none [.inLoop c25, .inBlock 0, .code c35] ⟨[(.int .u8 y0), g1, g2, (.ptr y3), (.ptr y4), (.ptr y5), g6, (.int .i64 y7), g8, g9, g10, g11, g12, g13, g14, g15, g16, g17, g18, g19, g20, g21, g22, g23, g24, g25, g26, g27, g28, g29, g30, g31, g32, g33, g34, g35, g36, g37, g38, g39, g40, g41, g42, g43, g44, g45, g46, g47, g48, g49, g50, g51, g52, g53, g54, g55, g56, g57, g58, g59, g60, g61, g62, g63, g64, g65, g66, g67, g68, g69, g70, g71, g72, g73, g74, g75, g76, g77, g78, g79, g80, g81, g82, g83, g84, g85, g86, g87, g88, g89, g90, g91, g92, g93, g94, g95, g96, g97, g98, g99, g100, g101, g102], ds⟩ S (fun v S1 => v = (.bool p.1) ∧ S1 = p.2) := by
  intro n
  induction n with
  | zero => intro _ _ _ _ _ _ _ _ _ _ _ _ _ _ _ _ _ _ _ _ _ _ _ _ _ _ _ _ _ _ _ _ _ _ _ _ _ _ _ _ _ _ _ _ _ _ _ _ _ _ _ _ _ _ _ _ _ _ _ _ _ _ _ _ _ _ _ _ _ _ _ _ _ _ _ _ _ _ _ _ _ _ _ _ _ _ _ _ _ _ _ _ _ _ _ _ _ _ _ _ _ _ _ _ _ _ h; cases h
  | succ n ih =>
    intro y0 y3 y4 y5 y7 ds S p g1 g2 g6 g8 g9 g10 g11 g12 g13 g14 g15 g16 g17 g18 g19 g20 g21 g22 g23 g24 g25 g26 g27 g28 g29 g30 g31 g32 g33 g34 g35 g36 g37 g38 g39 g40 g41 g42 g43 g44 g45 g46 g47 g48 g49 g50 g51 g52 g53 g54 g55 g56 g57 g58 g59 g60 g61 g62 g63 g64 g65 g66 g67 g68 g69 g70 g71 g72 g73 g74 g75 g76 g77 g78 g79 g80 g81 g82 g83 g84 g85 g86 g87 g88 g89 g90 g91 g92 g93 g94 g95 g96 g97 g98 g99 g100 g101 g102 h
    simp only [L1] at h
    refine hr_inLoop ?_
    refine q_seq e25 ?_
    refine q_seq e26 ?_
    refine q_region e27 rfl ?_
    refine q_op (dst := some 32) rfl (fun _ ho => ok_move ho (.tmp rfl)) ?_
    obtain ⟨p18, hp18, h⟩ := bindo h
    obtain ⟨p19, hp19, h⟩ := bindo h
    refine q_op (dst := some 33) rfl (fun _ ho => ok_load_s ho sc35 (.tmp rfl) hp18 (ldSl_out hp19)) ?_
    refine q_op (dst := some 34) rfl (fun _ ho => ok_len_sl (q := Sl.a p19) (n := Sl.len p19) (z := Sl.cap p19) ho rfl tu35 (.tmp rfl)) ?_
    refine q_op (dst := some 35) rfl (fun _ ho => ok_ibin ho (.tmp rfl) (.tmp rfl) rfl) ?_
    refine hr_region_end ?_
    try dsimp only [HAct.put, List.set_cons_zero, List.set_cons_succ]
    rcases ifc h with ⟨hc20, h⟩ | ⟨hc20, h⟩
    · refine q_cond_t e28 (.tmp rfl) (decide_eq_true hc20) ?_
      refine q_skipc e29 ?_
      refine q_seq e31 ?_
      refine q_block e32 ?_
      refine x_start (cls := [1, 1, 0, 1, 1, 2]) (rk := [0, 1, 2, 3, 4, 5]) e33 (by kernel_rfl) ?_
      obtain ⟨p21, hp21, h⟩ := bindo h
      obtain ⟨p22, hp22, h⟩ := bindo h
      refine x_go (r_op (dst := some 38) (ts := [5]) rfl (by intro _ _ h; cases h) (by kernel_rfl) (fun _ ho => ok_load_s ho sc24 (.tmp rfl) hp21 (ldP_out hp22))) rfl ?_
      obtain ⟨p23, hp23, h⟩ := bindo h
      obtain ⟨p24, hp24, h⟩ := bindo h
      refine x_go (r_op (dst := some 39) (ts := [3]) rfl (by intro _ _ h; cases h) (by kernel_rfl) (fun _ ho => ok_load_s ho sc35 (.tmp rfl) hp23 (ldSl_out hp24))) rfl ?_
      refine x_go (f_op (dst := some 40) (ts := [7]) rfl (by intro _ _ h; cases h) (by kernel_rfl) (fun _ _ ho => ok_move ho (.tmp rfl))) rfl ?_
      obtain ⟨p25, hp25, h⟩ := bindo h
      refine x_go (r_op (dst := some 41) (ts := [39, 40]) rfl (by intro _ _ h; cases h) (by kernel_rfl) (fun _ ho => ok_indexAddr (s := p24) ho tu35 sz3 (.tmp rfl) (.tmp rfl) hp25)) rfl ?_
      try dsimp only [HAct.put, List.set_cons_zero, List.set_cons_succ]
      obtain ⟨p26, hp26, h⟩ := bindo h
      refine x_go (r_op (dst := some 42) (ts := [41]) rfl (by intro _ _ h; cases h) (by kernel_rfl) (fun _ ho => ok_load_s ho sc3 (.tmp rfl) rfl (ldI_out hp26))) rfl ?_
      obtain ⟨p27, hp27, h⟩ := bindo h
      refine x_go (e_call (dst := some 43) (ts := [38, 42]) rfl (by kernel_rfl) (.func _) (.cons (.tmp rfl) (.cons (.str _) (.cons (.tmp rfl) Evs.nil))) (HInv.static was_Past_int_Put.at_ was_Past_int_Put.body (was_Past_int_Put.snd  hp27))) rfl ?_
      refine x_rest rfl ?_
      refine hr_region_end ?_
      try dsimp only [HAct.put, List.set_cons_zero, List.set_cons_succ]
      refine hr_inBlock ?_
      refine q_region e34 rfl ?_
      refine q_op (dst := some 36) rfl (fun _ ho => ok_move ho (.tmp rfl)) ?_
      refine q_op (dst := some 37) rfl (fun _ ho => ok_ibin ho (.tmp rfl) (.int _ _) rfl) ?_
      refine q_op (dst := some 7) rfl (fun _ ho => ok_assign ho (.tmp rfl)) ?_
      refine hr_region_end ?_
      try dsimp only [HAct.put, List.set_cons_zero, List.set_cons_succ]
      try dsimp only [HAct.put, List.set_cons_zero, List.set_cons_succ]
      exact ih h
    · refine q_cond_f e28 (.tmp rfl) (decide_eq_false hc20) ?_
      refine q_exit e30 rfl ?_
      refine q_seq e35 ?_
      refine q_region e36 rfl ?_
      obtain ⟨p28, hp28, h⟩ := bindo h
      obtain ⟨p29, hp29, h⟩ := bindo h
      refine q_op (dst := some 44) rfl (fun _ ho => ok_load_s ho sc24 (.tmp rfl) hp28 (ldP_out hp29)) ?_
      obtain ⟨p30, hp30, h⟩ := bindo h
      refine q_call (dst := some 45) rfl (.func _) (.cons (.tmp rfl) Evs.nil) (HInv.static was_Past_int_Len.at_ was_Past_int_Len.body (was_Past_int_Len.snd  hp30)) ?_
      rintro _ _ ⟨rfl, rfl⟩
      obtain ⟨p31, hp31, h⟩ := leto h
      refine q_op (dst := some 8) rfl (fun _ ho => ok_alloc_e ho zi3 zr3 (by decide) rfl hp31) ?_
      obtain ⟨p32, hp32, h⟩ := bindo h
      refine q_op (dst := none) rfl (fun _ ho => ok_store_s (v := (.int .i64 p30.1)) ho sz3 (.tmp rfl) rfl (.tmp rfl) rfl hp32) ?_
      refine hr_region_end ?_
      try dsimp only [HAct.put, List.set_cons_zero, List.set_cons_succ]
      refine q_seq e37 ?_
      refine q_region e38 rfl ?_
      obtain ⟨p33, hp33, h⟩ := bindo h
      obtain ⟨p34, hp34, h⟩ := bindo h
      refine q_op (dst := some 46) rfl (fun _ ho => ok_load_s ho sc24 (.tmp rfl) hp33 (ldP_out hp34)) ?_
      obtain ⟨p35, hp35, h⟩ := bindo h
      refine q_call (dst := some 47) rfl (.func _) (.cons (.tmp rfl) Evs.nil) (HInv.static was_Past_int_All.at_ was_Past_int_All.body (was_Past_int_All.snd  hp35)) ?_
      rintro _ _ ⟨rfl, rfl⟩
      refine q_op (dst := some 9) rfl (fun _ ho => ok_assign ho (.tmp rfl)) ?_
      refine hr_region_end ?_
      try dsimp only [HAct.put, List.set_cons_zero, List.set_cons_succ]
      refine q_seq e39 ?_
      refine q_seq e40 ?_
      refine q_region e41 rfl ?_
      refine q_op (dst := some 48) rfl (fun _ ho => ok_move ho (.tmp rfl)) ?_
      obtain ⟨p36, hp36, h⟩ := bindo h
      refine q_op (dst := some 49) rfl (fun _ ho => ok_nil_fn ho tu37 (.tmp rfl) hp36 (.inl ⟨rfl, rfl⟩)) ?_
      refine hr_region_end ?_
      try dsimp only [HAct.put, List.set_cons_zero, List.set_cons_succ]
      rcases ifc h with ⟨hc37, h⟩ | ⟨hc37, h⟩
      · refine q_cond_t e42 (.tmp rfl) hc37 ?_
        refine q_seq e43 ?_
        refine q_region e44 rfl ?_
        obtain ⟨p38, hp38, h⟩ := bindo h
        obtain ⟨p39, hp39, h⟩ := bindo h
        refine q_op (dst := none) rfl (fun _ ho => ok_store_s (v := (.bool false)) ho sz4 (.tmp rfl) hp38 (.bool _) rfl hp39) ?_
        refine hr_region_end ?_
        try dsimp only [HAct.put, List.set_cons_zero, List.set_cons_succ]
        obtain ⟨p40, hp40, h⟩ := bindo h
        obtain ⟨p41, hp41, h⟩ := bindo h
        obtain ⟨p42, hp42, h⟩ := bindo h
        cases h
        exact q_ret e45 at_.at_ hp40 (resL1 rfl (.cell rfl hp41 sc4 (ldB_out hp42))) ⟨rfl, rfl⟩
      · refine q_cond_f e42 (.tmp rfl) (bfalse hc37) ?_
        refine q_skipc e46 ?_
        refine q_seq e47 ?_
        refine q_region e48 rfl ?_
        obtain ⟨p43, hp43, h⟩ := leto h
        refine q_op (dst := some 10) rfl (fun _ ho => ok_alloc_e ho zi3 zr3 (by decide) rfl hp43) ?_
        obtain ⟨p44, hp44, h⟩ := bindo h
        refine q_op (dst := none) rfl (fun _ ho => ok_store_s (v := (.int .i64 0)) ho sz3 (.tmp rfl) rfl (.int _ _) rfl hp44) ?_
        refine hr_region_end ?_
        try dsimp only [HAct.put, List.set_cons_zero, List.set_cons_succ]
        refine q_seq e49 ?_
        refine q_region e50 rfl ?_
        obtain ⟨p45, hp45, h⟩ := leto h
        refine q_op (dst := some 11) rfl (fun _ ho => ok_alloc_e ho zi4 zr4 (by decide) rfl hp45) ?_
        obtain ⟨p46, hp46, h⟩ := bindo h
        refine q_op (dst := none) rfl (fun _ ho => ok_store_s (v := (.bool true)) ho sz4 (.tmp rfl) rfl (.bool _) rfl hp46) ?_
        refine hr_region_end ?_
        try dsimp only [HAct.put, List.set_cons_zero, List.set_cons_succ]
        refine q_seq e51 ?_
        refine q_seq e52 ?_
        refine q_region e53 rfl ?_
        refine q_op (dst := some 50) rfl (fun _ ho => ok_move ho (.tmp rfl)) ?_
        refine hr_region_end ?_
        try dsimp only [HAct.put, List.set_cons_zero, List.set_cons_succ]
        refine q_block e54 ?_
        obtain ⟨p79, hp79, h⟩ := bindo h
        obtain ⟨p80, hp80, h⟩ := bindo h
        obtain ⟨n81, hn81, h⟩ := bindo h
        refine q_range (D := D) (H := H) e55 (.tmp rfl) hD hH hp79 hp80 ?_ ?_
        · intro β1 hle hLA vs T u T' hr
          obtain ⟨u78, hu78, hr⟩ := bindo hr
          obtain ⟨ar75, har75, hr⟩ := bindo hr
          obtain ⟨p76, hp76, hr⟩ := bindo hr
          obtain ⟨p77, hp77, hr⟩ := bindo hr
          rw [args2_out har75]
          refine q_yield2 hLA hu78 rfl rfl ?_
          rw [dS_out hp76, dI_out hp77]
          simp only [HAct.params, List.set_cons_zero, List.set_cons_succ]
          exact J2_snd hD (hH.up hle) hr
        · rcases ifc h with ⟨hc82, h⟩ | ⟨hc82, h⟩
          · rw [pcode0 hn81 hc82]
            simp only [jumped_none, jumped_some]
            refine hr_inBlock ?_
            refine q_seq e71 ?_
            refine q_region e72 rfl ?_
            refine q_op (dst := some 14) rfl (fun _ ho => ok_assign ho (.const fun _ => .ptrNil)) ?_
            refine hr_region_end ?_
            try dsimp only [HAct.put, List.set_cons_zero, List.set_cons_succ]
            refine q_seq e73 ?_
            refine q_region e74 rfl ?_
            refine q_op (dst := some 73) rfl (fun _ ho => ok_move ho (.tmp rfl)) ?_
            obtain ⟨p83, hp83, h⟩ := bindo h
            refine q_call (dst := some 74) rfl (.func _) (.cons (.tmp rfl) (.cons (.str _) (.cons (.int _ _) Evs.nil))) (HInv.static was_Past_int_Put.at_ was_Past_int_Put.body (was_Past_int_Put.snd  hp83)) ?_
            rintro _ _ ⟨rfl, rfl⟩
            refine hr_region_end ?_
            try dsimp only [HAct.put, List.set_cons_zero, List.set_cons_succ]
            refine q_seq e75 ?_
            refine q_region e76 rfl ?_
            obtain ⟨p84, hp84, h⟩ := bindo h
            refine q_op (dst := some 75) rfl (fun _ ho => ok_load_s ho sc4 (.tmp rfl) rfl (ldB_out hp84)) ?_
            refine q_op (dst := some 76) rfl (fun _ ho => ok_move ho (.tmp rfl)) ?_
            rcases ifc h with ⟨hc85, h⟩ | ⟨hc85, h⟩
            · obtain ⟨p86, hp86, h⟩ := bindo h
              refine q_op_g (t := 76) (dst := some 77) rfl rfl rfl hc85 (fun _ ho => ok_load_s ho sc3 (.tmp rfl) rfl (ldI_out hp86)) ?_
              obtain ⟨p87, hp87, h⟩ := bindo h
              refine q_op_g (t := 76) (dst := some 78) rfl rfl rfl hc85 (fun _ ho => ok_load_s ho sc3 (.tmp rfl) rfl (ldI_out hp87)) ?_
              try dsimp only [HAct.put, List.set_cons_zero, List.set_cons_succ]
              refine q_op_g (t := 76) (dst := some 79) rfl rfl rfl hc85 (fun _ ho => ok_ibin ho (.tmp rfl) (.tmp rfl) rfl) ?_
              refine q_op (dst := some 80) rfl (fun _ ho => ok_pick_tt ho (.tmp rfl) hc85 (.tmp rfl)) ?_
              try dsimp only [HAct.put, List.set_cons_zero, List.set_cons_succ]
              exact J4_snd hD hH h
            · refine q_skip (dst := some 77) (t := 76) rfl rfl rfl (bfalse hc85) ?_
              refine q_skip (dst := some 78) (t := 76) rfl rfl rfl (bfalse hc85) ?_
              try dsimp only [HAct.put, List.set_cons_zero, List.set_cons_succ]
              refine q_skip (dst := some 79) (t := 76) rfl rfl rfl (bfalse hc85) ?_
              refine q_op (dst := some 80) rfl (fun _ ho => ok_pick_ff ho (.tmp rfl) (bfalse hc85) (.bool _)) ?_
              try dsimp only [HAct.put, List.set_cons_zero, List.set_cons_succ]
              exact J4_snd hD hH h
          · rcases ifc h with ⟨hc104, h⟩ | ⟨hc104, h⟩
            · rw [pcode1 hn81 hc104]
              simp only [jumped_none, jumped_some]
              obtain ⟨p105, hp105, h⟩ := bindo h
              obtain ⟨p106, hp106, h⟩ := bindo h
              obtain ⟨p107, hp107, h⟩ := bindo h
              cases h
              exact q_ret rfl at_.at_ hp105 (resL1 rfl (.cell rfl hp106 sc4 (ldB_out hp107))) ⟨rfl, rfl⟩
            · cases h
def J0 (D : Dp) (H : Hd) (k : Nat) (y0 : Int) (y3 : (Option HA)) (y4 : (Option HA)) (y5 : (Option HA)) (y6 : Int) (y29 : Bool) (ds : List Nat) (S : HS) : Option ((Bool) × HS) :=
  (if y29 = true then
  (Option.bind (y4) fun p13 =>
  (Option.bind (HS.sets S p13 [(.bool (decide (y6 = 0)))]) fun p14 =>
  (Option.bind (HS.leave p14 ds) fun p15 =>
  (Option.bind (y4) fun p16 =>
  (Option.bind (HS.ldB p15 p16) fun p17 =>
  some (p17, p15)))))) else
  L1 D H k k y0 y3 y4 y5 0 ds S)
theorem J0_snd {D : Dp} {H : Hd} {k : Nat} (hD : DSound Try.prog base W0 D) (hH : HSound Try.prog base W0 β0 H)  {y0 : Int} {y3 : (Option HA)} {y4 : (Option HA)} {y5 : (Option HA)} {y6 : Int} {y29 : Bool} {ds : List Nat} {S : HS} {p : (Bool) × HS} {g1 g2 g7 g8 g9 g10 g11 g12 g13 g14 g15 g16 g17 g18 g19 g20 g21 g22 g23 g24 g25 g26 g27 g28 g30 g31 g32 g33 g34 g35 g36 g37 g38 g39 g40 g41 g42 g43 g44 g45 g46 g47 g48 g49 g50 g51 g52 g53 g54 g55 g56 g57 g58 g59 g60 g61 g62 g63 g64 g65 g66 g67 g68 g69 g70 g71 g72 g73 g74 g75 g76 g77 g78 g79 g80 g81 g82 g83 g84 g85 g86 g87 g88 g89 g90 g91 g92 g93 g94 g95 g96 g97 g98 g99 g100 g101 g102 : HV} (h : J0 D H k y0 y3 y4 y5 y6 y29 ds S = some p) : HRun Try.prog base W0 β0 4 none [.code c15, .code c20] ⟨[(.int .u8 y0), g1, g2, (.ptr y3), (.ptr y4), (.ptr y5), (.int .i64 y6), g7, g8, g9, g10, g11, g12, g13, g14, g15, g16, g17, g18, g19, g20, g21, g22, g23, g24, g25, g26, g27, g28, (.bool y29), g30, g31, g32, g33, g34, g35, g36, g37, g38, g39, g40, g41, g42, g43, g44, g45, g46, g47, g48, g49, g50, g51, g52, g53, g54, g55, g56, g57, g58, g59, g60, g61, g62, g63, g64, g65, g66, g67, g68, g69, g70, g71, g72, g73, g74, g75, g76, g77, g78, g79, g80, g81, g82, g83, g84, g85, g86, g87, g88, g89, g90, g91, g92, g93, g94, g95, g96, g97, g98, g99, g100, g101, g102], ds⟩ S (fun v S1 => v = (.bool p.1) ∧ S1 = p.2) := by
  unfold J0 at h
  rcases ifc h with ⟨hc12, h⟩ | ⟨hc12, h⟩
  · refine q_cond_t e15 (.tmp rfl) hc12 ?_
    refine q_seq e16 ?_
    refine q_region e17 rfl ?_
    refine q_op (dst := some 30) rfl (fun _ ho => ok_move ho (.tmp rfl)) ?_
    refine q_op (dst := some 31) rfl (fun _ ho => ok_ibin ho (.tmp rfl) (.int _ _) rfl) ?_
    obtain ⟨p13, hp13, h⟩ := bindo h
    obtain ⟨p14, hp14, h⟩ := bindo h
    refine q_op (dst := none) rfl (fun _ ho => ok_store_s (v := (.bool (decide (y6 = 0)))) ho sz4 (.tmp rfl) hp13 (.tmp rfl) rfl hp14) ?_
    refine hr_region_end ?_
    try dsimp only [HAct.put, List.set_cons_zero, List.set_cons_succ]
    obtain ⟨p15, hp15, h⟩ := bindo h
    obtain ⟨p16, hp16, h⟩ := bindo h
    obtain ⟨p17, hp17, h⟩ := bindo h
    cases h
    exact q_ret e18 at_.at_ hp15 (resL1 rfl (.cell rfl hp16 sc4 (ldB_out hp17))) ⟨rfl, rfl⟩
  · refine q_cond_f e15 (.tmp rfl) (bfalse hc12) ?_
    refine q_skipc e19 ?_
    refine q_seq e20 ?_
    refine q_seq e21 ?_
    refine q_region e22 rfl ?_
    refine q_op (dst := some 7) rfl (fun _ ho => ok_assign ho (.int _ _)) ?_
    refine hr_region_end ?_
    try dsimp only [HAct.put, List.set_cons_zero, List.set_cons_succ]
    refine q_block e23 ?_
    refine q_loop e24 ?_
    try dsimp only [HAct.put, List.set_cons_zero, List.set_cons_succ]
    exact L1_snd hD hH h
def f (D : Dp) (H : Hd) (k : Nat) (x0 : Int) (x1 : Sl) (S : HS) : Option ((Bool) × HS) :=
  (letv (HS.new S (.cells 1 [[(Sl.hv x1)]] true)) fun p1 =>
  (letv (HS.new p1 (.cells 1 [[(.bool false)]] true)) fun p2 =>
  (Option.bind (rollcalllaw13_awake.f D H k p2) fun p3 =>
  (if (!p3.1) = true then
  (Option.bind (HS.sets p3.2 (HA.cell0 p1.next) [(.bool false)]) fun p5 =>
  (Option.bind (HS.leave p5 []) fun p6 =>
  (Option.bind (HS.ldB p6 (HA.cell0 p1.next)) fun p7 =>
  some (p7, p6)))) else
  (Option.bind (was_New_int.f (w64 x0) p3.2) fun p8 =>
  (letv (HS.new p8.2 (.cells 1 [[(.ptr none)]] true)) fun p9 =>
  (Option.bind (HS.sets p9 (HA.cell0 p8.2.next) [(.ptr p8.1.1)]) fun p10 =>
  (if (!decide (p8.1.2 = 0)) = true then
  J0 D H k x0 (some (HA.cell0 S.next)) (some (HA.cell0 p1.next)) (some (HA.cell0 p8.2.next)) p8.1.2 true [] p10 else
  (Option.bind (HS.ldSl p10 (HA.cell0 S.next)) fun p108 =>
  J0 D H k x0 (some (HA.cell0 S.next)) (some (HA.cell0 p1.next)) (some (HA.cell0 p8.2.next)) p8.1.2 (decide ((Sl.len p108 : Int) > 40)) [] p10)))))))))
theorem snd {D : Dp} {H : Hd} {k : Nat} {x0 : Int} {x1 : Sl} {S : HS} (hD : DSound Try.prog base W0 D) (hH : HSound Try.prog base W0 β0 H)  {p : (Bool) × HS} (h : f D H k x0 x1 S = some p) : HCall Try.prog base W0 β0 4 [(.int .u8 x0), (Sl.hv x1)] S (fun v S1 => v = (.bool p.1) ∧ S1 = p.2) := by
  unfold f at h
  refine HCall.of_run at_.at_ body ?_
  show HRun Try.prog base W0 β0 4 none [.code c0] ⟨[(.int .u8 x0), (Sl.hv x1), .tup [], .tup [], .tup [], .tup [], .tup [], .tup [], .tup [], .tup [], .tup [], .tup [], .tup [], .tup [], .tup [], .tup [], .tup [], .tup [], .tup [], .tup [], .tup [], .tup [], .tup [], .tup [], .tup [], .tup [], .tup [], .tup [], .tup [], .tup [], .tup [], .tup [], .tup [], .tup [], .tup [], .tup [], .tup [], .tup [], .tup [], .tup [], .tup [], .tup [], .tup [], .tup [], .tup [], .tup [], .tup [], .tup [], .tup [], .tup [], .tup [], .tup [], .tup [], .tup [], .tup [], .tup [], .tup [], .tup [], .tup [], .tup [], .tup [], .tup [], .tup [], .tup [], .tup [], .tup [], .tup [], .tup [], .tup [], .tup [], .tup [], .tup [], .tup [], .tup [], .tup [], .tup [], .tup [], .tup [], .tup [], .tup [], .tup [], .tup [], .tup [], .tup [], .tup [], .tup [], .tup [], .tup [], .tup [], .tup [], .tup [], .tup [], .tup [], .tup [], .tup [], .tup [], .tup [], .tup [], .tup [], .tup [], .tup [], .tup [], .tup []], []⟩ S _
  refine q_seq e0 ?_
  refine q_region e1 rfl ?_
  obtain ⟨p1, hp1, h⟩ := leto h
  refine q_op (dst := some 3) rfl (fun _ ho => ok_box_e ho (.tmp rfl) (Nat.zero_lt_succ _) rfl hp1) ?_
  obtain ⟨p2, hp2, h⟩ := leto h
  refine q_op (dst := some 4) rfl (fun _ ho => ok_alloc_e ho zi4 zr4 (by decide) rfl hp2) ?_
  refine hr_region_end ?_
  try dsimp only [HAct.put, List.set_cons_zero, List.set_cons_succ]
  refine q_seq e2 ?_
  refine q_seq e3 ?_
  refine q_region e4 rfl ?_
  obtain ⟨p3, hp3, h⟩ := bindo h
  refine q_call (dst := some 15) rfl (.func _) Evs.nil (HInv.static rollcalllaw13_awake.at_ rollcalllaw13_awake.body (rollcalllaw13_awake.snd hD hH hp3)) ?_
  rintro _ _ ⟨rfl, rfl⟩
  refine q_op (dst := some 16) rfl (fun _ ho => ok_not ho (.tmp rfl)) ?_
  refine hr_region_end ?_
  try dsimp only [HAct.put, List.set_cons_zero, List.set_cons_succ]
  rcases ifc h with ⟨hc4, h⟩ | ⟨hc4, h⟩
  · refine q_cond_t e5 (.tmp rfl) hc4 ?_
    refine q_seq e6 ?_
    refine q_region e7 rfl ?_
    obtain ⟨p5, hp5, h⟩ := bindo h
    refine q_op (dst := none) rfl (fun _ ho => ok_store_s (v := (.bool false)) ho sz4 (.tmp rfl) rfl (.bool _) rfl hp5) ?_
    refine hr_region_end ?_
    try dsimp only [HAct.put, List.set_cons_zero, List.set_cons_succ]
    obtain ⟨p6, hp6, h⟩ := bindo h
    obtain ⟨p7, hp7, h⟩ := bindo h
    cases h
    exact q_ret e8 at_.at_ hp6 (resL1 rfl (.cell rfl rfl sc4 (ldB_out hp7))) ⟨rfl, rfl⟩
  · refine q_cond_f e5 (.tmp rfl) (bfalse hc4) ?_
    refine q_skipc e9 ?_
    refine q_seq e10 ?_
    refine q_region e11 rfl ?_
    refine q_op (dst := some 18) rfl (fun _ ho => ok_move ho (.tmp rfl)) ?_
    refine q_op (dst := some 19) rfl (fun _ ho => ok_conv_int ho tu5 tu3 (.tmp rfl)) ?_
    obtain ⟨p8, hp8, h⟩ := bindo h
    refine q_call (dst := some 20) rfl (.func _) (.cons (.tmp rfl) Evs.nil) (HInv.static was_New_int.at_ was_New_int.body (was_New_int.snd  hp8)) ?_
    rintro _ _ ⟨rfl, rfl⟩
    refine q_op (dst := some 17) rfl (fun _ ho => ok_move ho (.tmp rfl)) ?_
    try dsimp only [HAct.put, List.set_cons_zero, List.set_cons_succ]
    refine q_op (dst := some 21) rfl (fun _ ho => ok_extract ho (.tmp rfl) rfl) ?_
    refine q_op (dst := some 22) rfl (fun _ ho => ok_extract ho (.tmp rfl) rfl) ?_
    obtain ⟨p9, hp9, h⟩ := leto h
    refine q_op (dst := some 5) rfl (fun _ ho => ok_alloc_e ho zi24 zr24 (by decide) rfl hp9) ?_
    obtain ⟨p10, hp10, h⟩ := bindo h
    refine q_op (dst := none) rfl (fun _ ho => ok_store_s (v := (.ptr p8.1.1)) ho sz24 (.tmp rfl) rfl (.tmp rfl) rfl hp10) ?_
    try dsimp only [HAct.put, List.set_cons_zero, List.set_cons_succ]
    refine q_op (dst := some 6) rfl (fun _ ho => ok_assign ho (.tmp rfl)) ?_
    refine hr_region_end ?_
    try dsimp only [HAct.put, List.set_cons_zero, List.set_cons_succ]
    refine q_seq e12 ?_
    refine q_seq e13 ?_
    refine q_region e14 rfl ?_
    refine q_op (dst := some 23) rfl (fun _ ho => ok_move ho (.tmp rfl)) ?_
    refine q_op (dst := some 24) rfl (fun _ ho => ok_ibin ho (.tmp rfl) (.int _ _) rfl) ?_
    refine q_op (dst := some 25) rfl (fun _ ho => ok_move ho (.tmp rfl)) ?_
    rcases ifc h with ⟨hc11, h⟩ | ⟨hc11, h⟩
    · refine q_skip (dst := some 26) (t := 25) rfl rfl rfl hc11 ?_
      try dsimp only [HAct.put, List.set_cons_zero, List.set_cons_succ]
      refine q_skip (dst := some 27) (t := 25) rfl rfl rfl hc11 ?_
      refine q_skip (dst := some 28) (t := 25) rfl rfl rfl hc11 ?_
      refine q_op (dst := some 29) rfl (fun _ ho => ok_pick_tt ho (.tmp rfl) hc11 (.bool _)) ?_
      refine hr_region_end ?_
      try dsimp only [HAct.put, List.set_cons_zero, List.set_cons_succ]
      try dsimp only [HAct.put, List.set_cons_zero, List.set_cons_succ]
      exact J0_snd hD hH h
    · obtain ⟨p108, hp108, h⟩ := bindo h
      refine q_op_g (t := 25) (dst := some 26) rfl rfl rfl (bfalse hc11) (fun _ ho => ok_load_s ho sc35 (.tmp rfl) rfl (ldSl_out hp108)) ?_
      try dsimp only [HAct.put, List.set_cons_zero, List.set_cons_succ]
      refine q_op_g (t := 25) (dst := some 27) rfl rfl rfl (bfalse hc11) (fun _ ho => ok_len_sl (q := Sl.a p108) (n := Sl.len p108) (z := Sl.cap p108) ho rfl tu35 (.tmp rfl)) ?_
      refine q_op_g (t := 25) (dst := some 28) rfl rfl rfl (bfalse hc11) (fun _ ho => ok_ibin ho (.tmp rfl) (.int _ _) rfl) ?_
      refine q_op (dst := some 29) rfl (fun _ ho => ok_pick_ff ho (.tmp rfl) (bfalse hc11) (.tmp rfl)) ?_
      refine hr_region_end ?_
      try dsimp only [HAct.put, List.set_cons_zero, List.set_cons_succ]
      try dsimp only [HAct.put, List.set_cons_zero, List.set_cons_succ]
      exact J0_snd hD hH h
end
end rollcalllaw13_WasStays
section
variable {base : Nat} {W0 : World} {β0 : Bt}
def call_15 (D : Dp) (H : Hd) (k : Nat) (vs : List HV) (S : HS) : Option (HV × HS) :=
  Option.bind (args2 vs) fun a =>
  Option.bind (dF a.1) fun p0 =>
  Option.bind (dP a.2) fun p1 =>
  Option.bind (was_Past_int_All_1.f D H k p0 p1 S) fun q =>
  some (.tup [], q.2)
theorem call_15_snd {D : Dp} {H : Hd} {k : Nat} (hD : DSound Try.prog base W0 D) (hH : HSound Try.prog base W0 β0 H) {vs : List HV} {S : HS} {p : HV × HS} (h : call_15 D H k vs S = some p) : HCall Try.prog base W0 β0 15 vs S (fun v1 S1 => v1 = p.1 ∧ S1 = p.2) := by
  unfold call_15 at h
  obtain ⟨a, ha, h⟩ := bindo h
  obtain ⟨p0, hp0, h⟩ := bindo h
  obtain ⟨p1, hp1, h⟩ := bindo h
  obtain ⟨q, hq, h⟩ := bindo h
  rw [args2_out ha, dF_out hp0, dP_out hp1]
  cases h
  exact was_Past_int_All_1.snd hD hH hq
def call_16 (D : Dp) (H : Hd) (k : Nat) (vs : List HV) (S : HS) : Option (HV × HS) :=
  Option.bind (args3 vs) fun a =>
  Option.bind (dF a.1) fun p0 =>
  Option.bind (dP a.2.1) fun p1 =>
  Option.bind (dP a.2.2) fun p2 =>
  Option.bind (was_Past_int_Find_1.f D H k p0 p1 p2 S) fun q =>
  some (.tup [], q.2)
theorem call_16_snd {D : Dp} {H : Hd} {k : Nat} (hD : DSound Try.prog base W0 D) (hH : HSound Try.prog base W0 β0 H) {vs : List HV} {S : HS} {p : HV × HS} (h : call_16 D H k vs S = some p) : HCall Try.prog base W0 β0 16 vs S (fun v1 S1 => v1 = p.1 ∧ S1 = p.2) := by
  unfold call_16 at h
  obtain ⟨a, ha, h⟩ := bindo h
  obtain ⟨p0, hp0, h⟩ := bindo h
  obtain ⟨p1, hp1, h⟩ := bindo h
  obtain ⟨p2, hp2, h⟩ := bindo h
  obtain ⟨q, hq, h⟩ := bindo h
  rw [args3_out ha, dF_out hp0, dP_out hp1, dP_out hp2]
  cases h
  exact was_Past_int_Find_1.snd hD hH hq
def disp (k : Nat) : Nat → Dp
  | 0 => fun _ _ _ _ => none
  | n + 1 => fun H fv vs S => match fv with
    | .fn (.yield l) [] [] => Option.bind (H l) fun r => r vs S
    | .fn (.func f) xs ys => if f = 15 then call_15 (disp k n) H k (xs ++ vs ++ ys) S else if f = 16 then call_16 (disp k n) H k (xs ++ vs ++ ys) S else none
    | _ => none
theorem disp_func {k n : Nat} {H : Hd} {f : Nat} {xs ys vs : List HV} {S : HS} : disp k (n + 1) H (.fn (.func f) xs ys) vs S = (if f = 15 then call_15 (disp k n) H k (xs ++ vs ++ ys) S else if f = 16 then call_16 (disp k n) H k (xs ++ vs ++ ys) S else none) := rfl
theorem disp_yield {k n : Nat} {H : Hd} {l : Nat} {vs : List HV} {S : HS} : disp k (n + 1) H (.fn (.yield l) [] []) vs S = Option.bind (H l) fun r => r vs S := rfl
theorem disp_snd {k : Nat} : ∀ n, DSound Try.prog base W0 (disp k n) := by
  intro n
  induction n with
  | zero => intro _ _ _ _ _ _ _ _ h; cases h
  | succ n ih =>
    intro β0 H hH fv vs S v S' h
    unfold disp at h
    split at h
    · obtain ⟨r, hr, h⟩ := bindo h
      exact hH _ _ hr _ _ _ _ h
    · skip
      rcases ifc h with ⟨hf, h⟩ | ⟨hf, h⟩
      · subst hf; exact HInv.func was_Past_int_All_1.at_ was_Past_int_All_1.body (call_15_snd ih hH h)
      rcases ifc h with ⟨hf, h⟩ | ⟨hf, h⟩
      · subst hf; exact HInv.func was_Past_int_Find_1.at_ was_Past_int_Find_1.body (call_16_snd ih hH h)
      cases h
    · cases h
end
end Go.Proofs.Ytlmpmnbljpigiaa.X
