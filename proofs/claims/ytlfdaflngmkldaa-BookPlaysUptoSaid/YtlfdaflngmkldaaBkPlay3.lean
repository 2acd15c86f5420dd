/- Functions of the program, each as a Lean function over the layer HL: a call answers what the Lean function answers, where it answers. -/
import Derived.Test.YtlfdaflngmkldaaProg
import Derived.Test.YtlfdaflngmkldaaBkPlay2
namespace Go.Proofs.Ytlfdaflngmkldaa.X
open Go.Proofs.Ytlfdaflngmkldaa.HL
set_option linter.unusedVariables false
set_option linter.unusedSimpArgs false
set_option maxRecDepth 20000
set_option maxHeartbeats 4000000
namespace rollcalllaw02_same
abbrev id : Nat := 29
theorem at_ : FnAt Try.prog 29 Try.f29 := ⟨Try.func29, by kernel_rfl⟩
noncomputable def c0 : Code := (Try.f29.body).getD .skip
noncomputable def c1 : Code := match c0 with | .seq x _ => x | _ => .skip
noncomputable def c2 : Code := match c0 with | .seq _ x => x | _ => .skip
noncomputable def c3 : Code := match c2 with | .seq x _ => x | _ => .skip
noncomputable def c4 : Code := match c2 with | .seq _ x => x | _ => .skip
noncomputable def c5 : Code := match c4 with | .seq x _ => x | _ => .skip
noncomputable def c6 : Code := match c4 with | .seq _ x => x | _ => .skip
noncomputable def c7 : Code := match c6 with | .seq x _ => x | _ => .skip
noncomputable def c8 : Code := match c6 with | .seq _ x => x | _ => .skip
noncomputable def c9 : Code := match c8 with | .seq x _ => x | _ => .skip
noncomputable def c10 : Code := match c9 with | .seq x _ => x | _ => .skip
noncomputable def c11 : Code := match c9 with | .seq _ x => x | _ => .skip
noncomputable def c12 : Code := match c11 with | .cond _ x _ => x | _ => .skip
noncomputable def c13 : Code := match c11 with | .cond _ _ x => x | _ => .skip
noncomputable def c14 : Code := match c8 with | .seq _ x => x | _ => .skip
noncomputable def c15 : Code := match c14 with | .seq x _ => x | _ => .skip
noncomputable def c16 : Code := match c15 with | .seq x _ => x | _ => .skip
noncomputable def c17 : Code := match c15 with | .seq _ x => x | _ => .skip
noncomputable def c18 : Code := match c17 with | .cond _ x _ => x | _ => .skip
noncomputable def c19 : Code := match c18 with | .seq x _ => x | _ => .skip
noncomputable def c20 : Code := match c18 with | .seq _ x => x | _ => .skip
noncomputable def c21 : Code := match c17 with | .cond _ _ x => x | _ => .skip
noncomputable def c22 : Code := match c14 with | .seq _ x => x | _ => .skip
noncomputable def c23 : Code := match c22 with | .seq x _ => x | _ => .skip
noncomputable def c24 : Code := match c23 with | .seq x _ => x | _ => .skip
noncomputable def c25 : Code := match c23 with | .seq _ x => x | _ => .skip
noncomputable def c26 : Code := match c25 with | .block _ x => x | _ => .skip
noncomputable def c27 : Code := match c26 with | .rangeFunc _ _ x _ => x | _ => .skip
noncomputable def c28 : Code := match c27 with | .seq x _ => x | _ => .skip
noncomputable def c29 : Code := match c27 with | .seq _ x => x | _ => .skip
noncomputable def c30 : Code := match c26 with | .rangeFunc _ _ _ x => x | _ => .skip
noncomputable def c31 : Code := match c30 with | .block _ x => x | _ => .skip
noncomputable def c32 : Code := match c31 with | .seq x _ => x | _ => .skip
noncomputable def c33 : Code := match c32 with | .seq x _ => x | _ => .skip
noncomputable def c34 : Code := match c32 with | .seq _ x => x | _ => .skip
noncomputable def c35 : Code := match c34 with | .cond _ x _ => x | _ => .skip
noncomputable def c36 : Code := match c35 with | .seq x _ => x | _ => .skip
noncomputable def c37 : Code := match c35 with | .seq _ x => x | _ => .skip
noncomputable def c38 : Code := match c34 with | .cond _ _ x => x | _ => .skip
noncomputable def c39 : Code := match c31 with | .seq _ x => x | _ => .skip
noncomputable def c40 : Code := match c39 with | .seq x _ => x | _ => .skip
noncomputable def c41 : Code := match c39 with | .seq _ x => x | _ => .skip
noncomputable def c42 : Code := match c22 with | .seq _ x => x | _ => .skip
noncomputable def c43 : Code := match c42 with | .seq x _ => x | _ => .skip
noncomputable def c44 : Code := match c42 with | .seq _ x => x | _ => .skip
theorem e0 : c0 = .seq c1 c2 := by kernel_rfl
noncomputable def r1 : Array Oper := match c1 with | .region _ x _ => x | _ => #[]
theorem e1 : c1 = .region 0 r1 false := by kernel_rfl
theorem e2 : c2 = .seq c3 c4 := by kernel_rfl
noncomputable def r3 : Array Oper := match c3 with | .region _ x _ => x | _ => #[]
theorem e3 : c3 = .region 1 r3 false := by kernel_rfl
theorem e4 : c4 = .seq c5 c6 := by kernel_rfl
noncomputable def r5 : Array Oper := match c5 with | .region _ x _ => x | _ => #[]
theorem e5 : c5 = .region 2 r5 false := by kernel_rfl
theorem e6 : c6 = .seq c7 c8 := by kernel_rfl
noncomputable def r7 : Array Oper := match c7 with | .region _ x _ => x | _ => #[]
theorem e7 : c7 = .region 3 r7 false := by kernel_rfl
theorem e8 : c8 = .seq c9 c14 := by kernel_rfl
theorem e9 : c9 = .seq c10 c11 := by kernel_rfl
noncomputable def r10 : Array Oper := match c10 with | .region _ x _ => x | _ => #[]
theorem e10 : c10 = .region 4 r10 false := by kernel_rfl
theorem e11 : c11 = .cond (.tmp 17) c12 c13 := by kernel_rfl
noncomputable def r12 : Array Oper := match c12 with | .region _ x _ => x | _ => #[]
theorem e12 : c12 = .region 5 r12 false := by kernel_rfl
theorem e13 : c13 = .skip := by kernel_rfl
theorem e14 : c14 = .seq c15 c22 := by kernel_rfl
theorem e15 : c15 = .seq c16 c17 := by kernel_rfl
noncomputable def r16 : Array Oper := match c16 with | .region _ x _ => x | _ => #[]
theorem e16 : c16 = .region 6 r16 false := by kernel_rfl
theorem e17 : c17 = .cond (.tmp 21) c18 c21 := by kernel_rfl
theorem e18 : c18 = .seq c19 c20 := by kernel_rfl
noncomputable def r19 : Array Oper := match c19 with | .region _ x _ => x | _ => #[]
theorem e19 : c19 = .region 7 r19 false := by kernel_rfl
theorem e20 : c20 = .ret := by kernel_rfl
theorem e21 : c21 = .skip := by kernel_rfl
theorem e22 : c22 = .seq c23 c42 := by kernel_rfl
theorem e23 : c23 = .seq c24 c25 := by kernel_rfl
noncomputable def r24 : Array Oper := match c24 with | .region _ x _ => x | _ => #[]
theorem e24 : c24 = .region 8 r24 false := by kernel_rfl
theorem e25 : c25 = .block 0 c26 := by kernel_rfl
theorem e26 : c26 = .rangeFunc (.tmp 22) #[23, 24] c27 c30 := by kernel_rfl
theorem e27 : c27 = .seq c28 c29 := by kernel_rfl
noncomputable def r28 : Array Oper := match c28 with | .region _ x _ => x | _ => #[]
theorem e28 : c28 = .region 9 r28 false := by kernel_rfl
noncomputable def r29 : Array Oper := match c29 with | .region _ x _ => x | _ => #[]
theorem e29 : c29 = .region 10 r29 false := by kernel_rfl
theorem e30 : c30 = .block 1 c31 := by kernel_rfl
theorem e31 : c31 = .seq c32 c39 := by kernel_rfl
theorem e32 : c32 = .seq c33 c34 := by kernel_rfl
noncomputable def r33 : Array Oper := match c33 with | .region _ x _ => x | _ => #[]
theorem e33 : c33 = .region 11 r33 false := by kernel_rfl
theorem e34 : c34 = .cond (.tmp 28) c35 c38 := by kernel_rfl
theorem e35 : c35 = .seq c36 c37 := by kernel_rfl
noncomputable def r36 : Array Oper := match c36 with | .region _ x _ => x | _ => #[]
theorem e36 : c36 = .region 12 r36 false := by kernel_rfl
theorem e37 : c37 = .ret := by kernel_rfl
theorem e38 : c38 = .skip := by kernel_rfl
theorem e39 : c39 = .seq c40 c41 := by kernel_rfl
noncomputable def r40 : Array Oper := match c40 with | .region _ x _ => x | _ => #[]
theorem e40 : c40 = .region 13 r40 false := by kernel_rfl
noncomputable def r41 : Array Oper := match c41 with | .region _ x _ => x | _ => #[]
theorem e41 : c41 = .region 14 r41 false := by kernel_rfl
theorem e42 : c42 = .seq c43 c44 := by kernel_rfl
noncomputable def r43 : Array Oper := match c43 with | .region _ x _ => x | _ => #[]
theorem e43 : c43 = .region 15 r43 false := by kernel_rfl
theorem e44 : c44 = .ret := by kernel_rfl
theorem body : Try.f29.body = some c0 := by kernel_rfl
section
variable {base : Nat} {W0 : World} {β0 : Bt}
def J3 (D : Dp) (H : Hd) (k : Nat) (l : Nat) (y9 : (Option HA)) (y10 : (Option HA)) (y47 : Bool) (S : HS) : Option (HV × HS) :=
  (Option.bind (y10) fun p41 =>
  (Option.bind (HS.sets S p41 [(.bool y47)]) fun p42 =>
  (Option.bind (y9) fun p43 =>
  (Option.bind (HS.ldI p42 .i64 p43) fun p44 =>
  (Option.bind (y9) fun p45 =>
  (Option.bind (HS.sets p42 p45 [(.int .i64 (w64 (p44 + 1)))]) fun p46 =>
  (HS.endr p46 l none)))))))
theorem J3_snd {D : Dp} {H : Hd} {k : Nat} {l : Nat} (hD : DSound Try.prog base W0 D) (hH : HSound Try.prog base W0 β0 H)  {y9 : (Option HA)} {y10 : (Option HA)} {y47 : Bool} {S : HS} {p : HV × HS} {g0 g1 g2 g3 g4 g5 g6 g7 g8 g11 g12 g13 g14 g15 g16 g17 g18 g19 g20 g21 g22 g23 g24 g25 g26 g27 g28 g29 g30 g31 g32 g33 g34 g35 g36 g37 g38 g39 g40 g41 g42 g43 g44 g45 g46 g48 g49 g50 g51 g52 g53 g54 g55 g56 : HV} (h : J3 D H k l y9 y10 y47 S = some p) : HRun Try.prog base W0 β0 29 (some l) [.inRegion r40 [19], .code c41, .inBlock 1] ⟨[g0, g1, g2, g3, g4, g5, g6, g7, g8, (.ptr y9), (.ptr y10), g11, g12, g13, g14, g15, g16, g17, g18, g19, g20, g21, g22, g23, g24, g25, g26, g27, g28, g29, g30, g31, g32, g33, g34, g35, g36, g37, g38, g39, g40, g41, g42, g43, g44, g45, g46, (.bool y47), g48, g49, g50, g51, g52, g53, g54, g55, g56], []⟩ S (fun v S1 => v = p.1 ∧ S1 = p.2) := by
  unfold J3 at h
  obtain ⟨p41, hp41, h⟩ := bindo h
  obtain ⟨p42, hp42, h⟩ := bindo h
  refine q_op (dst := none) rfl (fun _ ho => ok_store_s (v := (.bool y47)) ho sz4 (.tmp rfl) hp41 (.tmp rfl) rfl hp42) ?_
  refine hr_region_end ?_
  try dsimp only [HAct.put, List.set_cons_zero, List.set_cons_succ]
  refine q_region e41 rfl ?_
  obtain ⟨p43, hp43, h⟩ := bindo h
  obtain ⟨p44, hp44, h⟩ := bindo h
  refine q_op (dst := some 48) rfl (fun _ ho => ok_load_s ho sc3 (.tmp rfl) hp43 (ldI_out hp44)) ?_
  refine q_op (dst := some 49) rfl (fun _ ho => ok_ibin ho (.tmp rfl) (.int _ _) rfl) ?_
  obtain ⟨p45, hp45, h⟩ := bindo h
  obtain ⟨p46, hp46, h⟩ := bindo h
  refine q_op (dst := none) rfl (fun _ ho => ok_store_s (v := (.int .i64 (w64 (p44 + 1)))) ho sz3 (.tmp rfl) hp45 (.tmp rfl) rfl hp46) ?_
  refine hr_region_end ?_
  try dsimp only [HAct.put, List.set_cons_zero, List.set_cons_succ]
  refine hr_inBlock ?_
  exact q_round_end h ⟨rfl, rfl⟩
def J2 (D : Dp) (H : Hd) (k : Nat) (l : Nat) (y5 : (Option HA)) (y9 : (Option HA)) (y10 : (Option HA)) (y13 : Int) (y38 : Bool) (S : HS) : Option (HV × HS) :=
  (if y38 = true then
  (Option.bind (y5) fun p35 =>
  (Option.bind (HS.ldSl S p35) fun p36 =>
  (Option.bind (y9) fun p37 =>
  (Option.bind (HS.ldI S .i64 p37) fun p38 =>
  (Option.bind (HS.idx S p36 p38 2) fun p39 =>
  (Option.bind (HS.ldI S .i64 (HA.fld p39 1)) fun p40 =>
  J3 D H k l y9 y10 (decide (y13 = p40)) S)))))) else
  J3 D H k l y9 y10 false S)
theorem J2_snd {D : Dp} {H : Hd} {k : Nat} {l : Nat} (hD : DSound Try.prog base W0 D) (hH : HSound Try.prog base W0 β0 H)  {y5 : (Option HA)} {y9 : (Option HA)} {y10 : (Option HA)} {y13 : Int} {y38 : Bool} {S : HS} {p : HV × HS} {g0 g1 g2 g3 g4 g6 g7 g8 g11 g12 g14 g15 g16 g17 g18 g19 g20 g21 g22 g23 g24 g25 g26 g27 g28 g29 g30 g31 g32 g33 g34 g35 g36 g37 g39 g40 g41 g42 g43 g44 g45 g46 g47 g48 g49 g50 g51 g52 g53 g54 g55 g56 : HV} (h : J2 D H k l y5 y9 y10 y13 y38 S = some p) : HRun Try.prog base W0 β0 29 (some l) [.inRegion r40 [10, 11, 12, 13, 14, 15, 16, 17, 18, 19], .code c41, .inBlock 1] ⟨[g0, g1, g2, g3, g4, (.ptr y5), g6, g7, g8, (.ptr y9), (.ptr y10), g11, g12, (.int .i64 y13), g14, g15, g16, g17, g18, g19, g20, g21, g22, g23, g24, g25, g26, g27, g28, g29, g30, g31, g32, g33, g34, g35, g36, g37, (.bool y38), g39, g40, g41, g42, g43, g44, g45, g46, g47, g48, g49, g50, g51, g52, g53, g54, g55, g56], []⟩ S (fun v S1 => v = p.1 ∧ S1 = p.2) := by
  unfold J2 at h
  refine q_op (dst := some 39) rfl (fun _ ho => ok_move ho (.tmp rfl)) ?_
  rcases ifc h with ⟨hc34, h⟩ | ⟨hc34, h⟩
  · refine q_op_g (t := 39) (dst := some 40) rfl rfl rfl hc34 (fun _ ho => ok_move ho (.tmp rfl)) ?_
    try dsimp only [HAct.put, List.set_cons_zero, List.set_cons_succ]
    obtain ⟨p35, hp35, h⟩ := bindo h
    obtain ⟨p36, hp36, h⟩ := bindo h
    refine q_op_g (t := 39) (dst := some 41) rfl rfl rfl hc34 (fun _ ho => ok_load_s ho sc48 (.tmp rfl) hp35 (ldSl_out hp36)) ?_
    obtain ⟨p37, hp37, h⟩ := bindo h
    obtain ⟨p38, hp38, h⟩ := bindo h
    refine q_op_g (t := 39) (dst := some 42) rfl rfl rfl hc34 (fun _ ho => ok_load_s ho sc3 (.tmp rfl) hp37 (ldI_out hp38)) ?_
    obtain ⟨p39, hp39, h⟩ := bindo h
    refine q_op_g (t := 39) (dst := some 43) rfl rfl rfl hc34 (fun _ ho => ok_indexAddr (s := p36) ho tu48 sz61 (.tmp rfl) (.tmp rfl) hp39) ?_
    refine q_op_g (t := 39) (dst := some 44) rfl rfl rfl hc34 (fun _ ho => ok_fieldAddr_s ho fi61_1 (by decide) (.tmp rfl) rfl) ?_
    try dsimp only [HAct.put, List.set_cons_zero, List.set_cons_succ]
    obtain ⟨p40, hp40, h⟩ := bindo h
    refine q_op_g (t := 39) (dst := some 45) rfl rfl rfl hc34 (fun _ ho => ok_load_s ho sc3 (.tmp rfl) rfl (ldI_out hp40)) ?_
    refine q_op_g (t := 39) (dst := some 46) rfl rfl rfl hc34 (fun _ ho => ok_ibin ho (.tmp rfl) (.tmp rfl) rfl) ?_
    refine q_op (dst := some 47) rfl (fun _ ho => ok_pick_tt ho (.tmp rfl) hc34 (.tmp rfl)) ?_
    try dsimp only [HAct.put, List.set_cons_zero, List.set_cons_succ]
    exact J3_snd hD hH h
  · refine q_skip (dst := some 40) (t := 39) rfl rfl rfl (bfalse hc34) ?_
    try dsimp only [HAct.put, List.set_cons_zero, List.set_cons_succ]
    refine q_skip (dst := some 41) (t := 39) rfl rfl rfl (bfalse hc34) ?_
    refine q_skip (dst := some 42) (t := 39) rfl rfl rfl (bfalse hc34) ?_
    refine q_skip (dst := some 43) (t := 39) rfl rfl rfl (bfalse hc34) ?_
    refine q_skip (dst := some 44) (t := 39) rfl rfl rfl (bfalse hc34) ?_
    try dsimp only [HAct.put, List.set_cons_zero, List.set_cons_succ]
    refine q_skip (dst := some 45) (t := 39) rfl rfl rfl (bfalse hc34) ?_
    refine q_skip (dst := some 46) (t := 39) rfl rfl rfl (bfalse hc34) ?_
    refine q_op (dst := some 47) rfl (fun _ ho => ok_pick_ff ho (.tmp rfl) (bfalse hc34) (.bool _)) ?_
    try dsimp only [HAct.put, List.set_cons_zero, List.set_cons_succ]
    exact J3_snd hD hH h
def J1 (D : Dp) (H : Hd) (k : Nat) (l : Nat) (y5 : (Option HA)) (y8 : (Option HA)) (y9 : (Option HA)) (y10 : (Option HA)) (y23 : (List UInt8)) (y24 : Int) (S : HS) : Option (HV × HS) :=
  (Option.bind (HS.begin_ S l) fun p17 =>
  (Option.bind (y9) fun p18 =>
  (Option.bind (HS.ldI p17 .i64 p18) fun p19 =>
  (Option.bind (y5) fun p20 =>
  (Option.bind (HS.ldSl p17 p20) fun p21 =>
  (if p19 ≥ (Sl.len p21 : Int) then
  (Option.bind (y8) fun p23 =>
  (Option.bind (HS.sets p17 p23 [(.bool false)]) fun p24 =>
  (HS.endr p24 l (some .ret)))) else
  (Option.bind (y10) fun p25 =>
  (Option.bind (HS.ldB p17 p25) fun p26 =>
  (if p26 = true then
  (Option.bind (y5) fun p28 =>
  (Option.bind (HS.ldSl p17 p28) fun p29 =>
  (Option.bind (y9) fun p30 =>
  (Option.bind (HS.ldI p17 .i64 p30) fun p31 =>
  (Option.bind (HS.idx p17 p29 p31 2) fun p32 =>
  (Option.bind (HS.ldS p17 (HA.fld p32 0)) fun p33 =>
  J2 D H k l y5 y9 y10 y24 (decide (y23 = p33)) p17)))))) else
  J2 D H k l y5 y9 y10 y24 false p17)))))))))
theorem J1_snd {D : Dp} {H : Hd} {k : Nat} {l : Nat} (hD : DSound Try.prog base W0 D) (hH : HSound Try.prog base W0 β0 H)  {y5 : (Option HA)} {y8 : (Option HA)} {y9 : (Option HA)} {y10 : (Option HA)} {y23 : (List UInt8)} {y24 : Int} {S : HS} {p : HV × HS} {g0 g1 g2 g3 g4 g6 g7 g11 g12 g13 g14 g15 g16 g17 g18 g19 g20 g21 g22 g25 g26 g27 g28 g29 g30 g31 g32 g33 g34 g35 g36 g37 g38 g39 g40 g41 g42 g43 g44 g45 g46 g47 g48 g49 g50 g51 g52 g53 g54 g55 g56 : HV} (h : J1 D H k l y5 y8 y9 y10 y23 y24 S = some p) : HRun Try.prog base W0 β0 29 (some l) [.code c27, .beginRound, .code c30] ⟨[g0, g1, g2, g3, g4, (.ptr y5), g6, g7, (.ptr y8), (.ptr y9), (.ptr y10), g11, g12, g13, g14, g15, g16, g17, g18, g19, g20, g21, g22, (.str y23), (.int .i64 y24), g25, g26, g27, g28, g29, g30, g31, g32, g33, g34, g35, g36, g37, g38, g39, g40, g41, g42, g43, g44, g45, g46, g47, g48, g49, g50, g51, g52, g53, g54, g55, g56], []⟩ S (fun v S1 => v = p.1 ∧ S1 = p.2) := by
  unfold J1 at h
  refine q_seq e27 ?_
  refine q_region e28 rfl ?_
  refine q_op (dst := some 12) rfl (fun _ ho => ok_assign ho (.tmp rfl)) ?_
  refine hr_region_end ?_
  try dsimp only [HAct.put, List.set_cons_zero, List.set_cons_succ]
  refine q_region e29 rfl ?_
  refine q_op (dst := some 13) rfl (fun _ ho => ok_assign ho (.tmp rfl)) ?_
  refine hr_region_end ?_
  try dsimp only [HAct.put, List.set_cons_zero, List.set_cons_succ]
  obtain ⟨p17, hp17, h⟩ := bindo h
  refine q_begin hp17 ?_
  refine q_block e30 ?_
  refine q_seq e31 ?_
  refine q_seq e32 ?_
  refine q_region e33 rfl ?_
  obtain ⟨p18, hp18, h⟩ := bindo h
  obtain ⟨p19, hp19, h⟩ := bindo h
  refine q_op (dst := some 25) rfl (fun _ ho => ok_load_s ho sc3 (.tmp rfl) hp18 (ldI_out hp19)) ?_
  obtain ⟨p20, hp20, h⟩ := bindo h
  obtain ⟨p21, hp21, h⟩ := bindo h
  refine q_op (dst := some 26) rfl (fun _ ho => ok_load_s ho sc48 (.tmp rfl) hp20 (ldSl_out hp21)) ?_
  refine q_op (dst := some 27) rfl (fun _ ho => ok_len_sl (q := Sl.a p21) (n := Sl.len p21) (z := Sl.cap p21) ho rfl tu48 (.tmp rfl)) ?_
  refine q_op (dst := some 28) rfl (fun _ ho => ok_ibin ho (.tmp rfl) (.tmp rfl) rfl) ?_
  refine hr_region_end ?_
  try dsimp only [HAct.put, List.set_cons_zero, List.set_cons_succ]
  rcases ifc h with ⟨hc22, h⟩ | ⟨hc22, h⟩
  · refine q_cond_t e34 (.tmp rfl) (decide_eq_true hc22) ?_
    refine q_seq e35 ?_
    refine q_region e36 rfl ?_
    obtain ⟨p23, hp23, h⟩ := bindo h
    obtain ⟨p24, hp24, h⟩ := bindo h
    refine q_op (dst := none) rfl (fun _ ho => ok_store_s (v := (.bool false)) ho sz4 (.tmp rfl) hp23 (.bool _) rfl hp24) ?_
    refine hr_region_end ?_
    try dsimp only [HAct.put, List.set_cons_zero, List.set_cons_succ]
    exact q_round_ret e37 h ⟨rfl, rfl⟩
  · refine q_cond_f e34 (.tmp rfl) (decide_eq_false hc22) ?_
    refine q_skipc e38 ?_
    refine q_seq e39 ?_
    refine q_region e40 rfl ?_
    obtain ⟨p25, hp25, h⟩ := bindo h
    obtain ⟨p26, hp26, h⟩ := bindo h
    refine q_op (dst := some 29) rfl (fun _ ho => ok_load_s ho sc4 (.tmp rfl) hp25 (ldB_out hp26)) ?_
    refine q_op (dst := some 30) rfl (fun _ ho => ok_move ho (.tmp rfl)) ?_
    rcases ifc h with ⟨hc27, h⟩ | ⟨hc27, h⟩
    · refine q_op_g (t := 30) (dst := some 31) rfl rfl rfl hc27 (fun _ ho => ok_move ho (.tmp rfl)) ?_
      obtain ⟨p28, hp28, h⟩ := bindo h
      obtain ⟨p29, hp29, h⟩ := bindo h
      refine q_op_g (t := 30) (dst := some 32) rfl rfl rfl hc27 (fun _ ho => ok_load_s ho sc48 (.tmp rfl) hp28 (ldSl_out hp29)) ?_
      try dsimp only [HAct.put, List.set_cons_zero, List.set_cons_succ]
      obtain ⟨p30, hp30, h⟩ := bindo h
      obtain ⟨p31, hp31, h⟩ := bindo h
      refine q_op_g (t := 30) (dst := some 33) rfl rfl rfl hc27 (fun _ ho => ok_load_s ho sc3 (.tmp rfl) hp30 (ldI_out hp31)) ?_
      obtain ⟨p32, hp32, h⟩ := bindo h
      refine q_op_g (t := 30) (dst := some 34) rfl rfl rfl hc27 (fun _ ho => ok_indexAddr (s := p29) ho tu48 sz61 (.tmp rfl) (.tmp rfl) hp32) ?_
      refine q_op_g (t := 30) (dst := some 35) rfl rfl rfl hc27 (fun _ ho => ok_fieldAddr_s ho fi61_0 (by decide) (.tmp rfl) rfl) ?_
      obtain ⟨p33, hp33, h⟩ := bindo h
      refine q_op_g (t := 30) (dst := some 36) rfl rfl rfl hc27 (fun _ ho => ok_load_s ho sc9 (.tmp rfl) rfl (ldS_out hp33)) ?_
      try dsimp only [HAct.put, List.set_cons_zero, List.set_cons_succ]
      refine q_op_g (t := 30) (dst := some 37) rfl rfl rfl hc27 (fun _ ho => ok_sbin ho (.tmp rfl) (.tmp rfl) rfl) ?_
      refine q_op (dst := some 38) rfl (fun _ ho => ok_pick_tt ho (.tmp rfl) hc27 (.tmp rfl)) ?_
      try dsimp only [HAct.put, List.set_cons_zero, List.set_cons_succ]
      exact J2_snd hD hH h
    · refine q_skip (dst := some 31) (t := 30) rfl rfl rfl (bfalse hc27) ?_
      refine q_skip (dst := some 32) (t := 30) rfl rfl rfl (bfalse hc27) ?_
      try dsimp only [HAct.put, List.set_cons_zero, List.set_cons_succ]
      refine q_skip (dst := some 33) (t := 30) rfl rfl rfl (bfalse hc27) ?_
      refine q_skip (dst := some 34) (t := 30) rfl rfl rfl (bfalse hc27) ?_
      refine q_skip (dst := some 35) (t := 30) rfl rfl rfl (bfalse hc27) ?_
      refine q_skip (dst := some 36) (t := 30) rfl rfl rfl (bfalse hc27) ?_
      try dsimp only [HAct.put, List.set_cons_zero, List.set_cons_succ]
      refine q_skip (dst := some 37) (t := 30) rfl rfl rfl (bfalse hc27) ?_
      refine q_op (dst := some 38) rfl (fun _ ho => ok_pick_ff ho (.tmp rfl) (bfalse hc27) (.bool _)) ?_
      try dsimp only [HAct.put, List.set_cons_zero, List.set_cons_succ]
      exact J2_snd hD hH h
def J4 (D : Dp) (H : Hd) (k : Nat) (y8 : (Option HA)) (y56 : Bool) (ds : List Nat) (S : HS) : Option ((Bool) × HS) :=
  (Option.bind (y8) fun p62 =>
  (Option.bind (HS.sets S p62 [(.bool y56)]) fun p63 =>
  (Option.bind (HS.leave p63 ds) fun p64 =>
  (Option.bind (y8) fun p65 =>
  (Option.bind (HS.ldB p64 p65) fun p66 =>
  some (p66, p64))))))
theorem J4_snd {D : Dp} {H : Hd} {k : Nat} (hD : DSound Try.prog base W0 D) (hH : HSound Try.prog base W0 β0 H)  {y8 : (Option HA)} {y56 : Bool} {ds : List Nat} {S : HS} {p : (Bool) × HS} {g0 g1 g2 g3 g4 g5 g6 g7 g9 g10 g11 g12 g13 g14 g15 g16 g17 g18 g19 g20 g21 g22 g23 g24 g25 g26 g27 g28 g29 g30 g31 g32 g33 g34 g35 g36 g37 g38 g39 g40 g41 g42 g43 g44 g45 g46 g47 g48 g49 g50 g51 g52 g53 g54 g55 : HV} (h : J4 D H k y8 y56 ds S = some p) : HRun Try.prog base W0 β0 29 none [.inRegion r43 [7], .code c44] ⟨[g0, g1, g2, g3, g4, g5, g6, g7, (.ptr y8), g9, g10, g11, g12, g13, g14, g15, g16, g17, g18, g19, g20, g21, g22, g23, g24, g25, g26, g27, g28, g29, g30, g31, g32, g33, g34, g35, g36, g37, g38, g39, g40, g41, g42, g43, g44, g45, g46, g47, g48, g49, g50, g51, g52, g53, g54, g55, (.bool y56)], ds⟩ S (fun v S1 => v = (.bool p.1) ∧ S1 = p.2) := by
  unfold J4 at h
  obtain ⟨p62, hp62, h⟩ := bindo h
  obtain ⟨p63, hp63, h⟩ := bindo h
  refine q_op (dst := none) rfl (fun _ ho => ok_store_s (v := (.bool y56)) ho sz4 (.tmp rfl) hp62 (.tmp rfl) rfl hp63) ?_
  refine hr_region_end ?_
  try dsimp only [HAct.put, List.set_cons_zero, List.set_cons_succ]
  obtain ⟨p64, hp64, h⟩ := bindo h
  obtain ⟨p65, hp65, h⟩ := bindo h
  obtain ⟨p66, hp66, h⟩ := bindo h
  cases h
  exact q_ret e44 at_.at_ hp64 (resL1 rfl (.cell rfl hp65 sc4 (ldB_out hp66))) ⟨rfl, rfl⟩
def J0 (D : Dp) (H : Hd) (k : Nat) (y5 : (Option HA)) (y8 : (Option HA)) (y9 : (Option HA)) (y10 : (Option HA)) (y11 : HV) (ds : List Nat) (S : HS) : Option ((Bool) × HS) :=
  (Option.bind (HV.isNilFn y11) fun p10 =>
  (if (p10) = true then
  (Option.bind (y8) fun p12 =>
  (Option.bind (HS.sets S p12 [(.bool false)]) fun p13 =>
  (Option.bind (HS.leave p13 ds) fun p14 =>
  (Option.bind (y8) fun p15 =>
  (Option.bind (HS.ldB p14 p15) fun p16 =>
  some (p16, p14)))))) else
  (Option.bind (D (Hd.set H (HS.next S + 1) fun vs T =>
  (Option.bind (HS.lp T (HS.next S + 1)) fun u50 =>
  (Option.bind (args2 vs) fun ar47 =>
  (Option.bind (dS ar47.1) fun p48 =>
  (Option.bind (dI .i64 ar47.2) fun p49 =>
  (J1 D H k (HS.next S + 1) y5 y8 y9 y10 p48 p49 T)))))) y11 [.fn (.yield (HS.next S + 1)) [] []] (HS.new (HS.new S .defer) (.loop .ready none))) fun p51 =>
  (Option.bind (HS.finish p51.2 (HS.next S + 1)) fun p52 =>
  (Option.bind (pcode p52.1) fun n53 =>
  (if n53 = 0 then
  (Option.bind (y10) fun p55 =>
  (Option.bind (HS.ldB p52.2 p55) fun p56 =>
  (if p56 = true then
  (Option.bind (y9) fun p58 =>
  (Option.bind (HS.ldI p52.2 .i64 p58) fun p59 =>
  (Option.bind (y5) fun p60 =>
  (Option.bind (HS.ldSl p52.2 p60) fun p61 =>
  J4 D H k y8 (decide (p59 = (Sl.len p61 : Int))) (HS.next S :: ds) p52.2)))) else
  J4 D H k y8 false (HS.next S :: ds) p52.2))) else
  (if n53 = 1 then
  (Option.bind (HS.leave p52.2 (HS.next S :: ds)) fun p68 =>
  (Option.bind (y8) fun p69 =>
  (Option.bind (HS.ldB p68 p69) fun p70 =>
  some (p70, p68)))) else
  none)))))))
theorem J0_snd {D : Dp} {H : Hd} {k : Nat} (hD : DSound Try.prog base W0 D) (hH : HSound Try.prog base W0 β0 H)  {y5 : (Option HA)} {y8 : (Option HA)} {y9 : (Option HA)} {y10 : (Option HA)} {y11 : HV} {ds : List Nat} {S : HS} {p : (Bool) × HS} {g0 g1 g2 g3 g4 g6 g7 g12 g13 g14 g15 g16 g17 g18 g19 g20 g21 g22 g23 g24 g25 g26 g27 g28 g29 g30 g31 g32 g33 g34 g35 g36 g37 g38 g39 g40 g41 g42 g43 g44 g45 g46 g47 g48 g49 g50 g51 g52 g53 g54 g55 g56 : HV} (h : J0 D H k y5 y8 y9 y10 y11 ds S = some p) : HRun Try.prog base W0 β0 29 none [.code c14] ⟨[g0, g1, g2, g3, g4, (.ptr y5), g6, g7, (.ptr y8), (.ptr y9), (.ptr y10), y11, g12, g13, g14, g15, g16, g17, g18, g19, g20, g21, g22, g23, g24, g25, g26, g27, g28, g29, g30, g31, g32, g33, g34, g35, g36, g37, g38, g39, g40, g41, g42, g43, g44, g45, g46, g47, g48, g49, g50, g51, g52, g53, g54, g55, g56], ds⟩ S (fun v S1 => v = (.bool p.1) ∧ S1 = p.2) := by
  unfold J0 at h
  refine q_seq e14 ?_
  refine q_seq e15 ?_
  refine q_region e16 rfl ?_
  refine q_op (dst := some 20) rfl (fun _ ho => ok_move ho (.tmp rfl)) ?_
  obtain ⟨p10, hp10, h⟩ := bindo h
  refine q_op (dst := some 21) rfl (fun _ ho => ok_nil_fn ho tu93 (.tmp rfl) hp10 (.inl ⟨rfl, rfl⟩)) ?_
  refine hr_region_end ?_
  try dsimp only [HAct.put, List.set_cons_zero, List.set_cons_succ]
  rcases ifc h with ⟨hc11, h⟩ | ⟨hc11, h⟩
  · refine q_cond_t e17 (.tmp rfl) hc11 ?_
    refine q_seq e18 ?_
    refine q_region e19 rfl ?_
    obtain ⟨p12, hp12, h⟩ := bindo h
    obtain ⟨p13, hp13, h⟩ := bindo h
    refine q_op (dst := none) rfl (fun _ ho => ok_store_s (v := (.bool false)) ho sz4 (.tmp rfl) hp12 (.bool _) rfl hp13) ?_
    refine hr_region_end ?_
    try dsimp only [HAct.put, List.set_cons_zero, List.set_cons_succ]
    obtain ⟨p14, hp14, h⟩ := bindo h
    obtain ⟨p15, hp15, h⟩ := bindo h
    obtain ⟨p16, hp16, h⟩ := bindo h
    cases h
    exact q_ret e20 at_.at_ hp14 (resL1 rfl (.cell rfl hp15 sc4 (ldB_out hp16))) ⟨rfl, rfl⟩
  · refine q_cond_f e17 (.tmp rfl) (bfalse hc11) ?_
    refine q_skipc e21 ?_
    refine q_seq e22 ?_
    refine q_seq e23 ?_
    refine q_region e24 rfl ?_
    refine q_op (dst := some 22) rfl (fun _ ho => ok_move ho (.tmp rfl)) ?_
    refine hr_region_end ?_
    try dsimp only [HAct.put, List.set_cons_zero, List.set_cons_succ]
    refine q_block e25 ?_
    obtain ⟨p51, hp51, h⟩ := bindo h
    obtain ⟨p52, hp52, h⟩ := bindo h
    obtain ⟨n53, hn53, h⟩ := bindo h
    refine q_range (D := D) (H := H) e26 (.tmp rfl) hD hH hp51 hp52 ?_ ?_
    · intro β1 hle hLA vs T u T' hr
      obtain ⟨u50, hu50, hr⟩ := bindo hr
      obtain ⟨ar47, har47, hr⟩ := bindo hr
      obtain ⟨p48, hp48, hr⟩ := bindo hr
      obtain ⟨p49, hp49, hr⟩ := bindo hr
      rw [args2_out har47]
      refine q_yield2 hLA hu50 rfl rfl ?_
      rw [dS_out hp48, dI_out hp49]
      simp only [HAct.params, List.set_cons_zero, List.set_cons_succ]
      exact J1_snd hD (hH.up hle) hr
    · rcases ifc h with ⟨hc54, h⟩ | ⟨hc54, h⟩
      · rw [pcode0 hn53 hc54]
        simp only [jumped_none, jumped_some]
        refine hr_inBlock ?_
        refine q_seq e42 ?_
        refine q_region e43 rfl ?_
        obtain ⟨p55, hp55, h⟩ := bindo h
        obtain ⟨p56, hp56, h⟩ := bindo h
        refine q_op (dst := some 50) rfl (fun _ ho => ok_load_s ho sc4 (.tmp rfl) hp55 (ldB_out hp56)) ?_
        refine q_op (dst := some 51) rfl (fun _ ho => ok_move ho (.tmp rfl)) ?_
        rcases ifc h with ⟨hc57, h⟩ | ⟨hc57, h⟩
        · obtain ⟨p58, hp58, h⟩ := bindo h
          obtain ⟨p59, hp59, h⟩ := bindo h
          refine q_op_g (t := 51) (dst := some 52) rfl rfl rfl hc57 (fun _ ho => ok_load_s ho sc3 (.tmp rfl) hp58 (ldI_out hp59)) ?_
          obtain ⟨p60, hp60, h⟩ := bindo h
          obtain ⟨p61, hp61, h⟩ := bindo h
          refine q_op_g (t := 51) (dst := some 53) rfl rfl rfl hc57 (fun _ ho => ok_load_s ho sc48 (.tmp rfl) hp60 (ldSl_out hp61)) ?_
          try dsimp only [HAct.put, List.set_cons_zero, List.set_cons_succ]
          refine q_op_g (t := 51) (dst := some 54) rfl rfl rfl hc57 (fun _ ho => ok_len_sl (q := Sl.a p61) (n := Sl.len p61) (z := Sl.cap p61) ho rfl tu48 (.tmp rfl)) ?_
          refine q_op_g (t := 51) (dst := some 55) rfl rfl rfl hc57 (fun _ ho => ok_ibin ho (.tmp rfl) (.tmp rfl) rfl) ?_
          refine q_op (dst := some 56) rfl (fun _ ho => ok_pick_tt ho (.tmp rfl) hc57 (.tmp rfl)) ?_
          try dsimp only [HAct.put, List.set_cons_zero, List.set_cons_succ]
          exact J4_snd hD hH h
        · refine q_skip (dst := some 52) (t := 51) rfl rfl rfl (bfalse hc57) ?_
          refine q_skip (dst := some 53) (t := 51) rfl rfl rfl (bfalse hc57) ?_
          try dsimp only [HAct.put, List.set_cons_zero, List.set_cons_succ]
          refine q_skip (dst := some 54) (t := 51) rfl rfl rfl (bfalse hc57) ?_
          refine q_skip (dst := some 55) (t := 51) rfl rfl rfl (bfalse hc57) ?_
          refine q_op (dst := some 56) rfl (fun _ ho => ok_pick_ff ho (.tmp rfl) (bfalse hc57) (.bool _)) ?_
          try dsimp only [HAct.put, List.set_cons_zero, List.set_cons_succ]
          exact J4_snd hD hH h
      · rcases ifc h with ⟨hc67, h⟩ | ⟨hc67, h⟩
        · rw [pcode1 hn53 hc67]
          simp only [jumped_none, jumped_some]
          obtain ⟨p68, hp68, h⟩ := bindo h
          obtain ⟨p69, hp69, h⟩ := bindo h
          obtain ⟨p70, hp70, h⟩ := bindo h
          cases h
          exact q_ret rfl at_.at_ hp68 (resL1 rfl (.cell rfl hp69 sc4 (ldB_out hp70))) ⟨rfl, rfl⟩
        · cases h
def f (D : Dp) (H : Hd) (k : Nat) (x0 : (Option HA)) (x1 : Sl) (x2 : (List UInt8)) (x3 : Bool) (S : HS) : Option ((Bool) × HS) :=
  (letv (HS.new S (.cells 1 [[(Sl.hv x1)]] true)) fun p1 =>
  (letv (HS.new p1 (.cells 1 [[(.bool false)]] true)) fun p2 =>
  (letv (HS.new p2 (.cells 1 [[(.int .i64 0)]] true)) fun p3 =>
  (Option.bind (HS.sets p3 (HA.cell0 p2.next) [(.int .i64 0)]) fun p4 =>
  (letv (HS.new p4 (.cells 1 [[(.bool false)]] true)) fun p5 =>
  (Option.bind (HS.sets p5 (HA.cell0 p4.next) [(.bool true)]) fun p6 =>
  (Option.bind (book_Book_int_From.f D H k x0 x2 p6) fun p7 =>
  (if x3 = true then
  (Option.bind (book_Book_int_All.f x0 p7.2) fun p9 =>
  J0 D H k (some (HA.cell0 S.next)) (some (HA.cell0 p1.next)) (some (HA.cell0 p2.next)) (some (HA.cell0 p4.next)) p9.1 [] p9.2) else
  J0 D H k (some (HA.cell0 S.next)) (some (HA.cell0 p1.next)) (some (HA.cell0 p2.next)) (some (HA.cell0 p4.next)) p7.1 [] p7.2))))))))
theorem snd {D : Dp} {H : Hd} {k : Nat} {x0 : (Option HA)} {x1 : Sl} {x2 : (List UInt8)} {x3 : Bool} {S : HS} (hD : DSound Try.prog base W0 D) (hH : HSound Try.prog base W0 β0 H)  {p : (Bool) × HS} (h : f D H k x0 x1 x2 x3 S = some p) : HCall Try.prog base W0 β0 29 [(.ptr x0), (Sl.hv x1), (.str x2), (.bool x3)] S (fun v S1 => v = (.bool p.1) ∧ S1 = p.2) := by
  unfold f at h
  refine HCall.of_run at_.at_ body ?_
  show HRun Try.prog base W0 β0 29 none [.code c0] ⟨[(.ptr x0), (Sl.hv x1), (.str x2), (.bool x3), .tup [], .tup [], .tup [], .tup [], .tup [], .tup [], .tup [], .tup [], .tup [], .tup [], .tup [], .tup [], .tup [], .tup [], .tup [], .tup [], .tup [], .tup [], .tup [], .tup [], .tup [], .tup [], .tup [], .tup [], .tup [], .tup [], .tup [], .tup [], .tup [], .tup [], .tup [], .tup [], .tup [], .tup [], .tup [], .tup [], .tup [], .tup [], .tup [], .tup [], .tup [], .tup [], .tup [], .tup [], .tup [], .tup [], .tup [], .tup [], .tup [], .tup [], .tup [], .tup [], .tup []], []⟩ S _
  refine q_seq e0 ?_
  refine q_region e1 rfl ?_
  obtain ⟨p1, hp1, h⟩ := leto h
  refine q_op (dst := some 5) rfl (fun _ ho => ok_box_e ho (.tmp rfl) (Nat.zero_lt_succ _) rfl hp1) ?_
  obtain ⟨p2, hp2, h⟩ := leto h
  refine q_op (dst := some 8) rfl (fun _ ho => ok_alloc_e ho zi4 zr4 (by decide) rfl hp2) ?_
  refine hr_region_end ?_
  try dsimp only [HAct.put, List.set_cons_zero, List.set_cons_succ]
  refine q_seq e2 ?_
  refine q_region e3 rfl ?_
  obtain ⟨p3, hp3, h⟩ := leto h
  refine q_op (dst := some 9) rfl (fun _ ho => ok_alloc_e ho zi3 zr3 (by decide) rfl hp3) ?_
  obtain ⟨p4, hp4, h⟩ := bindo h
  refine q_op (dst := none) rfl (fun _ ho => ok_store_s (v := (.int .i64 0)) ho sz3 (.tmp rfl) rfl (.int _ _) rfl hp4) ?_
  refine hr_region_end ?_
  try dsimp only [HAct.put, List.set_cons_zero, List.set_cons_succ]
  refine q_seq e4 ?_
  refine q_region e5 rfl ?_
  obtain ⟨p5, hp5, h⟩ := leto h
  refine q_op (dst := some 10) rfl (fun _ ho => ok_alloc_e ho zi4 zr4 (by decide) rfl hp5) ?_
  obtain ⟨p6, hp6, h⟩ := bindo h
  refine q_op (dst := none) rfl (fun _ ho => ok_store_s (v := (.bool true)) ho sz4 (.tmp rfl) rfl (.bool _) rfl hp6) ?_
  refine hr_region_end ?_
  try dsimp only [HAct.put, List.set_cons_zero, List.set_cons_succ]
  refine q_seq e6 ?_
  refine q_region e7 rfl ?_
  refine q_op (dst := some 14) rfl (fun _ ho => ok_move ho (.tmp rfl)) ?_
  refine q_op (dst := some 15) rfl (fun _ ho => ok_move ho (.tmp rfl)) ?_
  obtain ⟨p7, hp7, h⟩ := bindo h
  refine q_call (dst := some 16) rfl (.func _) (.cons (.tmp rfl) (.cons (.tmp rfl) Evs.nil)) (HInv.static book_Book_int_From.at_ book_Book_int_From.body (book_Book_int_From.snd hD hH hp7)) ?_
  rintro _ _ ⟨rfl, rfl⟩
  refine q_op (dst := some 11) rfl (fun _ ho => ok_assign ho (.tmp rfl)) ?_
  refine hr_region_end ?_
  try dsimp only [HAct.put, List.set_cons_zero, List.set_cons_succ]
  refine q_seq e8 ?_
  refine q_seq e9 ?_
  refine q_region e10 rfl ?_
  refine q_op (dst := some 17) rfl (fun _ ho => ok_move ho (.tmp rfl)) ?_
  refine hr_region_end ?_
  try dsimp only [HAct.put, List.set_cons_zero, List.set_cons_succ]
  rcases ifc h with ⟨hc8, h⟩ | ⟨hc8, h⟩
  · refine q_cond_t e11 (.tmp rfl) hc8 ?_
    refine q_region e12 rfl ?_
    refine q_op (dst := some 18) rfl (fun _ ho => ok_move ho (.tmp rfl)) ?_
    obtain ⟨p9, hp9, h⟩ := bindo h
    refine q_call (dst := some 19) rfl (.func _) (.cons (.tmp rfl) Evs.nil) (HInv.static book_Book_int_All.at_ book_Book_int_All.body (book_Book_int_All.snd  hp9)) ?_
    rintro _ _ ⟨rfl, rfl⟩
    refine q_op (dst := some 11) rfl (fun _ ho => ok_assign ho (.tmp rfl)) ?_
    refine hr_region_end ?_
    try dsimp only [HAct.put, List.set_cons_zero, List.set_cons_succ]
    try dsimp only [HAct.put, List.set_cons_zero, List.set_cons_succ]
    exact J0_snd hD hH h
  · refine q_cond_f e11 (.tmp rfl) (bfalse hc8) ?_
    refine q_skipc e13 ?_
    try dsimp only [HAct.put, List.set_cons_zero, List.set_cons_succ]
    exact J0_snd hD hH h
end
end rollcalllaw02_same
namespace rollcalllaw02_BookPlays
abbrev id : Nat := 5
theorem at_ : FnAt Try.prog 5 Try.f5 := ⟨Try.func5, by kernel_rfl⟩
noncomputable def c0 : Code := (Try.f5.body).getD .skip
noncomputable def c1 : Code := match c0 with | .seq x _ => x | _ => .skip
noncomputable def c2 : Code := match c0 with | .seq _ x => x | _ => .skip
noncomputable def c3 : Code := match c2 with | .seq x _ => x | _ => .skip
noncomputable def c4 : Code := match c3 with | .seq x _ => x | _ => .skip
noncomputable def c5 : Code := match c3 with | .seq _ x => x | _ => .skip
noncomputable def c6 : Code := match c5 with | .cond _ x _ => x | _ => .skip
noncomputable def c7 : Code := match c6 with | .seq x _ => x | _ => .skip
noncomputable def c8 : Code := match c6 with | .seq _ x => x | _ => .skip
noncomputable def c9 : Code := match c5 with | .cond _ _ x => x | _ => .skip
noncomputable def c10 : Code := match c2 with | .seq _ x => x | _ => .skip
noncomputable def c11 : Code := match c10 with | .seq x _ => x | _ => .skip
noncomputable def c12 : Code := match c11 with | .seq x _ => x | _ => .skip
noncomputable def c13 : Code := match c11 with | .seq _ x => x | _ => .skip
noncomputable def c14 : Code := match c13 with | .cond _ x _ => x | _ => .skip
noncomputable def c15 : Code := match c14 with | .seq x _ => x | _ => .skip
noncomputable def c16 : Code := match c14 with | .seq _ x => x | _ => .skip
noncomputable def c17 : Code := match c13 with | .cond _ _ x => x | _ => .skip
noncomputable def c18 : Code := match c10 with | .seq _ x => x | _ => .skip
noncomputable def c19 : Code := match c18 with | .seq x _ => x | _ => .skip
noncomputable def c20 : Code := match c18 with | .seq _ x => x | _ => .skip
noncomputable def c21 : Code := match c20 with | .seq x _ => x | _ => .skip
noncomputable def c22 : Code := match c21 with | .seq x _ => x | _ => .skip
noncomputable def c23 : Code := match c21 with | .seq _ x => x | _ => .skip
noncomputable def c24 : Code := match c23 with | .cond _ x _ => x | _ => .skip
noncomputable def c25 : Code := match c24 with | .seq x _ => x | _ => .skip
noncomputable def c26 : Code := match c24 with | .seq _ x => x | _ => .skip
noncomputable def c27 : Code := match c23 with | .cond _ _ x => x | _ => .skip
noncomputable def c28 : Code := match c20 with | .seq _ x => x | _ => .skip
noncomputable def c29 : Code := match c28 with | .seq x _ => x | _ => .skip
noncomputable def c30 : Code := match c29 with | .seq x _ => x | _ => .skip
noncomputable def c31 : Code := match c29 with | .seq _ x => x | _ => .skip
noncomputable def c32 : Code := match c31 with | .cond _ x _ => x | _ => .skip
noncomputable def c33 : Code := match c32 with | .seq x _ => x | _ => .skip
noncomputable def c34 : Code := match c32 with | .seq _ x => x | _ => .skip
noncomputable def c35 : Code := match c31 with | .cond _ _ x => x | _ => .skip
noncomputable def c36 : Code := match c28 with | .seq _ x => x | _ => .skip
noncomputable def c37 : Code := match c36 with | .seq x _ => x | _ => .skip
noncomputable def c38 : Code := match c36 with | .seq _ x => x | _ => .skip
noncomputable def c39 : Code := match c38 with | .seq x _ => x | _ => .skip
noncomputable def c40 : Code := match c39 with | .seq x _ => x | _ => .skip
noncomputable def c41 : Code := match c39 with | .seq _ x => x | _ => .skip
noncomputable def c42 : Code := match c41 with | .block _ x => x | _ => .skip
noncomputable def c43 : Code := match c42 with | .loop x => x | _ => .skip
noncomputable def c44 : Code := match c43 with | .seq x _ => x | _ => .skip
noncomputable def c45 : Code := match c44 with | .seq x _ => x | _ => .skip
noncomputable def c46 : Code := match c44 with | .seq _ x => x | _ => .skip
noncomputable def c47 : Code := match c46 with | .cond _ x _ => x | _ => .skip
noncomputable def c48 : Code := match c46 with | .cond _ _ x => x | _ => .skip
noncomputable def c49 : Code := match c43 with | .seq _ x => x | _ => .skip
noncomputable def c50 : Code := match c49 with | .seq x _ => x | _ => .skip
noncomputable def c51 : Code := match c50 with | .block _ x => x | _ => .skip
noncomputable def c52 : Code := match c51 with | .seq x _ => x | _ => .skip
noncomputable def c53 : Code := match c51 with | .seq _ x => x | _ => .skip
noncomputable def c54 : Code := match c53 with | .seq x _ => x | _ => .skip
noncomputable def c55 : Code := match c54 with | .seq x _ => x | _ => .skip
noncomputable def c56 : Code := match c54 with | .seq _ x => x | _ => .skip
noncomputable def c57 : Code := match c56 with | .cond _ x _ => x | _ => .skip
noncomputable def c58 : Code := match c56 with | .cond _ _ x => x | _ => .skip
noncomputable def c59 : Code := match c53 with | .seq _ x => x | _ => .skip
noncomputable def c60 : Code := match c59 with | .seq x _ => x | _ => .skip
noncomputable def c61 : Code := match c59 with | .seq _ x => x | _ => .skip
noncomputable def c62 : Code := match c61 with | .seq x _ => x | _ => .skip
noncomputable def c63 : Code := match c61 with | .seq _ x => x | _ => .skip
noncomputable def c64 : Code := match c63 with | .seq x _ => x | _ => .skip
noncomputable def c65 : Code := match c63 with | .seq _ x => x | _ => .skip
noncomputable def c66 : Code := match c65 with | .seq x _ => x | _ => .skip
noncomputable def c67 : Code := match c65 with | .seq _ x => x | _ => .skip
noncomputable def c68 : Code := match c67 with | .cond _ x _ => x | _ => .skip
noncomputable def c69 : Code := match c68 with | .seq x _ => x | _ => .skip
noncomputable def c70 : Code := match c68 with | .seq _ x => x | _ => .skip
noncomputable def c71 : Code := match c67 with | .cond _ _ x => x | _ => .skip
noncomputable def c72 : Code := match c49 with | .seq _ x => x | _ => .skip
noncomputable def c73 : Code := match c38 with | .seq _ x => x | _ => .skip
noncomputable def c74 : Code := match c73 with | .seq x _ => x | _ => .skip
noncomputable def c75 : Code := match c73 with | .seq _ x => x | _ => .skip
theorem e0 : c0 = .seq c1 c2 := by kernel_rfl
noncomputable def r1 : Array Oper := match c1 with | .region _ x _ => x | _ => #[]
theorem e1 : c1 = .region 0 r1 false := by kernel_rfl
theorem e2 : c2 = .seq c3 c10 := by kernel_rfl
theorem e3 : c3 = .seq c4 c5 := by kernel_rfl
noncomputable def r4 : Array Oper := match c4 with | .region _ x _ => x | _ => #[]
theorem e4 : c4 = .region 1 r4 false := by kernel_rfl
theorem e5 : c5 = .cond (.tmp 18) c6 c9 := by kernel_rfl
theorem e6 : c6 = .seq c7 c8 := by kernel_rfl
noncomputable def r7 : Array Oper := match c7 with | .region _ x _ => x | _ => #[]
theorem e7 : c7 = .region 2 r7 false := by kernel_rfl
theorem e8 : c8 = .ret := by kernel_rfl
theorem e9 : c9 = .skip := by kernel_rfl
theorem e10 : c10 = .seq c11 c18 := by kernel_rfl
theorem e11 : c11 = .seq c12 c13 := by kernel_rfl
noncomputable def r12 : Array Oper := match c12 with | .region _ x _ => x | _ => #[]
theorem e12 : c12 = .region 3 r12 false := by kernel_rfl
theorem e13 : c13 = .cond (.tmp 25) c14 c17 := by kernel_rfl
theorem e14 : c14 = .seq c15 c16 := by kernel_rfl
noncomputable def r15 : Array Oper := match c15 with | .region _ x _ => x | _ => #[]
theorem e15 : c15 = .region 4 r15 false := by kernel_rfl
theorem e16 : c16 = .ret := by kernel_rfl
theorem e17 : c17 = .skip := by kernel_rfl
theorem e18 : c18 = .seq c19 c20 := by kernel_rfl
noncomputable def r19 : Array Oper := match c19 with | .region _ x _ => x | _ => #[]
theorem e19 : c19 = .region 5 r19 false := by kernel_rfl
theorem e20 : c20 = .seq c21 c28 := by kernel_rfl
theorem e21 : c21 = .seq c22 c23 := by kernel_rfl
noncomputable def r22 : Array Oper := match c22 with | .region _ x _ => x | _ => #[]
theorem e22 : c22 = .region 6 r22 false := by kernel_rfl
theorem e23 : c23 = .cond (.tmp 36) c24 c27 := by kernel_rfl
theorem e24 : c24 = .seq c25 c26 := by kernel_rfl
noncomputable def r25 : Array Oper := match c25 with | .region _ x _ => x | _ => #[]
theorem e25 : c25 = .region 7 r25 false := by kernel_rfl
theorem e26 : c26 = .ret := by kernel_rfl
theorem e27 : c27 = .skip := by kernel_rfl
theorem e28 : c28 = .seq c29 c36 := by kernel_rfl
theorem e29 : c29 = .seq c30 c31 := by kernel_rfl
noncomputable def r30 : Array Oper := match c30 with | .region _ x _ => x | _ => #[]
theorem e30 : c30 = .region 8 r30 false := by kernel_rfl
theorem e31 : c31 = .cond (.tmp 44) c32 c35 := by kernel_rfl
theorem e32 : c32 = .seq c33 c34 := by kernel_rfl
noncomputable def r33 : Array Oper := match c33 with | .region _ x _ => x | _ => #[]
theorem e33 : c33 = .region 9 r33 false := by kernel_rfl
theorem e34 : c34 = .ret := by kernel_rfl
theorem e35 : c35 = .skip := by kernel_rfl
theorem e36 : c36 = .seq c37 c38 := by kernel_rfl
noncomputable def r37 : Array Oper := match c37 with | .region _ x _ => x | _ => #[]
theorem e37 : c37 = .region 10 r37 false := by kernel_rfl
theorem e38 : c38 = .seq c39 c73 := by kernel_rfl
theorem e39 : c39 = .seq c40 c41 := by kernel_rfl
noncomputable def r40 : Array Oper := match c40 with | .region _ x _ => x | _ => #[]
theorem e40 : c40 = .region 11 r40 false := by kernel_rfl
theorem e41 : c41 = .block 0 c42 := by kernel_rfl
theorem e42 : c42 = .loop c43 := by kernel_rfl
theorem e43 : c43 = .seq c44 c49 := by kernel_rfl
theorem e44 : c44 = .seq c45 c46 := by kernel_rfl
noncomputable def r45 : Array Oper := match c45 with | .region _ x _ => x | _ => #[]
theorem e45 : c45 = .region 12 r45 false := by kernel_rfl
theorem e46 : c46 = .cond (.tmp 51) c47 c48 := by kernel_rfl
theorem e47 : c47 = .skip := by kernel_rfl
theorem e48 : c48 = .exit 0 := by kernel_rfl
theorem e49 : c49 = .seq c50 c72 := by kernel_rfl
theorem e50 : c50 = .block 1 c51 := by kernel_rfl
theorem e51 : c51 = .seq c52 c53 := by kernel_rfl
noncomputable def r52 : Array Oper := match c52 with | .region _ x _ => x | _ => #[]
theorem e52 : c52 = .region 14 r52 false := by kernel_rfl
theorem e53 : c53 = .seq c54 c59 := by kernel_rfl
theorem e54 : c54 = .seq c55 c56 := by kernel_rfl
noncomputable def r55 : Array Oper := match c55 with | .region _ x _ => x | _ => #[]
theorem e55 : c55 = .region 15 r55 false := by kernel_rfl
theorem e56 : c56 = .cond (.tmp 59) c57 c58 := by kernel_rfl
noncomputable def r57 : Array Oper := match c57 with | .region _ x _ => x | _ => #[]
theorem e57 : c57 = .region 16 r57 true := by kernel_rfl
noncomputable def r58 : Array Oper := match c58 with | .region _ x _ => x | _ => #[]
theorem e58 : c58 = .region 17 r58 true := by kernel_rfl
theorem e59 : c59 = .seq c60 c61 := by kernel_rfl
noncomputable def r60 : Array Oper := match c60 with | .region _ x _ => x | _ => #[]
theorem e60 : c60 = .region 18 r60 false := by kernel_rfl
theorem e61 : c61 = .seq c62 c63 := by kernel_rfl
noncomputable def r62 : Array Oper := match c62 with | .region _ x _ => x | _ => #[]
theorem e62 : c62 = .region 19 r62 false := by kernel_rfl
theorem e63 : c63 = .seq c64 c65 := by kernel_rfl
noncomputable def r64 : Array Oper := match c64 with | .region _ x _ => x | _ => #[]
theorem e64 : c64 = .region 20 r64 false := by kernel_rfl
theorem e65 : c65 = .seq c66 c67 := by kernel_rfl
noncomputable def r66 : Array Oper := match c66 with | .region _ x _ => x | _ => #[]
theorem e66 : c66 = .region 21 r66 true := by kernel_rfl
theorem e67 : c67 = .cond (.tmp 176) c68 c71 := by kernel_rfl
theorem e68 : c68 = .seq c69 c70 := by kernel_rfl
noncomputable def r69 : Array Oper := match c69 with | .region _ x _ => x | _ => #[]
theorem e69 : c69 = .region 22 r69 false := by kernel_rfl
theorem e70 : c70 = .ret := by kernel_rfl
theorem e71 : c71 = .skip := by kernel_rfl
noncomputable def r72 : Array Oper := match c72 with | .region _ x _ => x | _ => #[]
theorem e72 : c72 = .region 13 r72 false := by kernel_rfl
theorem e73 : c73 = .seq c74 c75 := by kernel_rfl
noncomputable def r74 : Array Oper := match c74 with | .region _ x _ => x | _ => #[]
theorem e74 : c74 = .region 23 r74 false := by kernel_rfl
theorem e75 : c75 = .ret := by kernel_rfl
theorem body : Try.f5.body = some c0 := by kernel_rfl
section
variable {base : Nat} {W0 : World} {β0 : Bt}
def J2 (D : Dp) (H : Hd) (k : Nat) (y42 : Bool) (S : HS) : Option ((Bool) × HS) :=
  some (y42, S)
theorem J2_snd {D : Dp} {H : Hd} {k : Nat} (hD : DSound Try.prog base W0 D) (hH : HSound Try.prog base W0 β0 H)  {y42 : Bool} {S : HS} {p : (Bool) × HS} {g0 g1 g2 g3 g4 g5 g6 g7 g8 g9 g10 g11 g12 g13 g14 g15 g16 g17 g18 g19 g20 g21 g22 g23 g24 g25 g26 g27 g28 g29 g30 g31 g32 g33 g34 g35 g36 g37 g38 g39 g40 g41 g43 g44 g45 g46 g47 g48 g49 g50 g51 g52 g53 g54 g55 g56 g57 g58 g59 g60 g61 g62 g63 g64 g65 g66 g67 g68 g69 g70 g71 g72 g73 g74 g75 g76 g77 g78 g79 g80 g81 g82 g83 g84 g85 g86 g87 g88 g89 g90 g91 g92 g93 g94 g95 g96 g97 g98 g99 g100 g101 g102 g103 g104 g105 g106 g107 g108 g109 g110 g111 g112 g113 g114 g115 g116 g117 g118 g119 g120 g121 g122 g123 g124 g125 g126 g127 g128 g129 g130 g131 g132 g133 g134 g135 g136 g137 g138 g139 g140 g141 g142 g143 g144 g145 g146 g147 g148 g149 g150 g151 g152 g153 g154 g155 g156 g157 g158 g159 g160 g161 g162 g163 g164 g165 g166 g167 g168 g169 g170 g171 g172 g173 g174 g175 g176 g177 g178 g179 g180 g181 g182 g183 g184 g185 g186 g187 g188 : HV} (h : J2 D H k y42 S = some p) : HRun Try.prog base W0 β0 5 none [.inRegion r25 [6], .code c26, .code c28] ⟨[g0, g1, g2, g3, g4, g5, g6, g7, g8, g9, g10, g11, g12, g13, g14, g15, g16, g17, g18, g19, g20, g21, g22, g23, g24, g25, g26, g27, g28, g29, g30, g31, g32, g33, g34, g35, g36, g37, g38, g39, g40, g41, (.bool y42), g43, g44, g45, g46, g47, g48, g49, g50, g51, g52, g53, g54, g55, g56, g57, g58, g59, g60, g61, g62, g63, g64, g65, g66, g67, g68, g69, g70, g71, g72, g73, g74, g75, g76, g77, g78, g79, g80, g81, g82, g83, g84, g85, g86, g87, g88, g89, g90, g91, g92, g93, g94, g95, g96, g97, g98, g99, g100, g101, g102, g103, g104, g105, g106, g107, g108, g109, g110, g111, g112, g113, g114, g115, g116, g117, g118, g119, g120, g121, g122, g123, g124, g125, g126, g127, g128, g129, g130, g131, g132, g133, g134, g135, g136, g137, g138, g139, g140, g141, g142, g143, g144, g145, g146, g147, g148, g149, g150, g151, g152, g153, g154, g155, g156, g157, g158, g159, g160, g161, g162, g163, g164, g165, g166, g167, g168, g169, g170, g171, g172, g173, g174, g175, g176, g177, g178, g179, g180, g181, g182, g183, g184, g185, g186, g187, g188], []⟩ S (fun v S1 => v = (.bool p.1) ∧ S1 = p.2) := by
  unfold J2 at h
  refine q_op (dst := some 6) rfl (fun _ ho => ok_assign ho (.tmp rfl)) ?_
  refine hr_region_end ?_
  try dsimp only [HAct.put, List.set_cons_zero, List.set_cons_succ]
  cases h
  exact q_ret e26 at_.at_ rfl (res1 rfl rfl) ⟨rfl, rfl⟩
def J5 (D : Dp) (H : Hd) (k : Nat) (rec0 : Sl → (List UInt8) → (Option HA) → (Option HA) → Int → HS → Option ((Bool) × HS)) (y1 : Sl) (y2 : (List UInt8)) (y7 : (Option HA)) (y9 : (Option HA)) (y10 : Int) (y176 : Bool) (S : HS) : Option ((Bool) × HS) :=
  (if y176 = true then
  some (false, S) else
  rec0 y1 y2 y7 y9 (w64 (y10 + 1)) S)
theorem J5_snd {D : Dp} {H : Hd} {k : Nat} {rec0 : Sl → (List UInt8) → (Option HA) → (Option HA) → Int → HS → Option ((Bool) × HS)} (hD : DSound Try.prog base W0 D) (hH : HSound Try.prog base W0 β0 H) (hrec0 : ∀ ⦃y1 : Sl⦄ ⦃y2 : (List UInt8)⦄ ⦃y7 : (Option HA)⦄ ⦃y9 : (Option HA)⦄ ⦃y10 : Int⦄ ⦃S : HS⦄ ⦃p : (Bool) × HS⦄ ⦃g0 g3 g4 g5 g6 g8 g11 g12 g13 g14 g15 g16 g17 g18 g19 g20 g21 g22 g23 g24 g25 g26 g27 g28 g29 g30 g31 g32 g33 g34 g35 g36 g37 g38 g39 g40 g41 g42 g43 g44 g45 g46 g47 g48 g49 g50 g51 g52 g53 g54 g55 g56 g57 g58 g59 g60 g61 g62 g63 g64 g65 g66 g67 g68 g69 g70 g71 g72 g73 g74 g75 g76 g77 g78 g79 g80 g81 g82 g83 g84 g85 g86 g87 g88 g89 g90 g91 g92 g93 g94 g95 g96 g97 g98 g99 g100 g101 g102 g103 g104 g105 g106 g107 g108 g109 g110 g111 g112 g113 g114 g115 g116 g117 g118 g119 g120 g121 g122 g123 g124 g125 g126 g127 g128 g129 g130 g131 g132 g133 g134 g135 g136 g137 g138 g139 g140 g141 g142 g143 g144 g145 g146 g147 g148 g149 g150 g151 g152 g153 g154 g155 g156 g157 g158 g159 g160 g161 g162 g163 g164 g165 g166 g167 g168 g169 g170 g171 g172 g173 g174 g175 g176 g177 g178 g179 g180 g181 g182 g183 g184 g185 g186 g187 g188 : HV⦄, rec0 y1 y2 y7 y9 y10 S = some p → HRun Try.prog base W0 β0 5 none [.inLoop c43, .inBlock 0, .code c73] ⟨[g0, (Sl.hv y1), (.str y2), g3, g4, g5, g6, (.ptr y7), g8, (.ptr y9), (.int .i64 y10), g11, g12, g13, g14, g15, g16, g17, g18, g19, g20, g21, g22, g23, g24, g25, g26, g27, g28, g29, g30, g31, g32, g33, g34, g35, g36, g37, g38, g39, g40, g41, g42, g43, g44, g45, g46, g47, g48, g49, g50, g51, g52, g53, g54, g55, g56, g57, g58, g59, g60, g61, g62, g63, g64, g65, g66, g67, g68, g69, g70, g71, g72, g73, g74, g75, g76, g77, g78, g79, g80, g81, g82, g83, g84, g85, g86, g87, g88, g89, g90, g91, g92, g93, g94, g95, g96, g97, g98, g99, g100, g101, g102, g103, g104, g105, g106, g107, g108, g109, g110, g111, g112, g113, g114, g115, g116, g117, g118, g119, g120, g121, g122, g123, g124, g125, g126, g127, g128, g129, g130, g131, g132, g133, g134, g135, g136, g137, g138, g139, g140, g141, g142, g143, g144, g145, g146, g147, g148, g149, g150, g151, g152, g153, g154, g155, g156, g157, g158, g159, g160, g161, g162, g163, g164, g165, g166, g167, g168, g169, g170, g171, g172, g173, g174, g175, g176, g177, g178, g179, g180, g181, g182, g183, g184, g185, g186, g187, g188], []⟩ S (fun v S1 => v = (.bool p.1) ∧ S1 = p.2)) {y1 : Sl} {y2 : (List UInt8)} {y7 : (Option HA)} {y9 : (Option HA)} {y10 : Int} {y176 : Bool} {S : HS} {p : (Bool) × HS} {g0 g3 g4 g5 g6 g8 g11 g12 g13 g14 g15 g16 g17 g18 g19 g20 g21 g22 g23 g24 g25 g26 g27 g28 g29 g30 g31 g32 g33 g34 g35 g36 g37 g38 g39 g40 g41 g42 g43 g44 g45 g46 g47 g48 g49 g50 g51 g52 g53 g54 g55 g56 g57 g58 g59 g60 g61 g62 g63 g64 g65 g66 g67 g68 g69 g70 g71 g72 g73 g74 g75 g76 g77 g78 g79 g80 g81 g82 g83 g84 g85 g86 g87 g88 g89 g90 g91 g92 g93 g94 g95 g96 g97 g98 g99 g100 g101 g102 g103 g104 g105 g106 g107 g108 g109 g110 g111 g112 g113 g114 g115 g116 g117 g118 g119 g120 g121 g122 g123 g124 g125 g126 g127 g128 g129 g130 g131 g132 g133 g134 g135 g136 g137 g138 g139 g140 g141 g142 g143 g144 g145 g146 g147 g148 g149 g150 g151 g152 g153 g154 g155 g156 g157 g158 g159 g160 g161 g162 g163 g164 g165 g166 g167 g168 g169 g170 g171 g172 g173 g174 g175 g177 g178 g179 g180 g181 g182 g183 g184 g185 g186 g187 g188 : HV} (h : J5 D H k rec0 y1 y2 y7 y9 y10 y176 S = some p) : HRun Try.prog base W0 β0 5 none [.code c67, .inBlock 1, .code c72, .inLoop c43, .inBlock 0, .code c73] ⟨[g0, (Sl.hv y1), (.str y2), g3, g4, g5, g6, (.ptr y7), g8, (.ptr y9), (.int .i64 y10), g11, g12, g13, g14, g15, g16, g17, g18, g19, g20, g21, g22, g23, g24, g25, g26, g27, g28, g29, g30, g31, g32, g33, g34, g35, g36, g37, g38, g39, g40, g41, g42, g43, g44, g45, g46, g47, g48, g49, g50, g51, g52, g53, g54, g55, g56, g57, g58, g59, g60, g61, g62, g63, g64, g65, g66, g67, g68, g69, g70, g71, g72, g73, g74, g75, g76, g77, g78, g79, g80, g81, g82, g83, g84, g85, g86, g87, g88, g89, g90, g91, g92, g93, g94, g95, g96, g97, g98, g99, g100, g101, g102, g103, g104, g105, g106, g107, g108, g109, g110, g111, g112, g113, g114, g115, g116, g117, g118, g119, g120, g121, g122, g123, g124, g125, g126, g127, g128, g129, g130, g131, g132, g133, g134, g135, g136, g137, g138, g139, g140, g141, g142, g143, g144, g145, g146, g147, g148, g149, g150, g151, g152, g153, g154, g155, g156, g157, g158, g159, g160, g161, g162, g163, g164, g165, g166, g167, g168, g169, g170, g171, g172, g173, g174, g175, (.bool y176), g177, g178, g179, g180, g181, g182, g183, g184, g185, g186, g187, g188], []⟩ S (fun v S1 => v = (.bool p.1) ∧ S1 = p.2) := by
  unfold J5 at h
  rcases ifc h with ⟨hc30, h⟩ | ⟨hc30, h⟩
  · refine q_cond_t e67 (.tmp rfl) hc30 ?_
    refine q_seq e68 ?_
    refine q_region e69 rfl ?_
    refine q_op (dst := some 6) rfl (fun _ ho => ok_assign ho (.bool _)) ?_
    refine hr_region_end ?_
    try dsimp only [HAct.put, List.set_cons_zero, List.set_cons_succ]
    cases h
    exact q_ret e70 at_.at_ rfl (res1 rfl rfl) ⟨rfl, rfl⟩
  · refine q_cond_f e67 (.tmp rfl) (bfalse hc30) ?_
    refine q_skipc e71 ?_
    refine hr_inBlock ?_
    refine q_region e72 rfl ?_
    refine q_op (dst := some 52) rfl (fun _ ho => ok_move ho (.tmp rfl)) ?_
    refine q_op (dst := some 53) rfl (fun _ ho => ok_ibin ho (.tmp rfl) (.int _ _) rfl) ?_
    refine q_op (dst := some 10) rfl (fun _ ho => ok_assign ho (.tmp rfl)) ?_
    refine hr_region_end ?_
    try dsimp only [HAct.put, List.set_cons_zero, List.set_cons_succ]
    try dsimp only [HAct.put, List.set_cons_zero, List.set_cons_succ]
    exact hrec0 h
def J4 (D : Dp) (H : Hd) (k : Nat) (rec0 : Sl → (List UInt8) → (Option HA) → (Option HA) → Int → HS → Option ((Bool) × HS)) (y1 : Sl) (y2 : (List UInt8)) (y7 : (Option HA)) (y9 : (Option HA)) (y10 : Int) (y11 : Bool) (S : HS) : Option ((Bool) × HS) :=
  (Option.bind (book_Book_int_Get.f D H k y7 y2 S) fun p26 =>
  (Option.bind (book_Book_int_Name.f D H k y7 y2 p26.2) fun p27 =>
  (Option.bind (rollcallref02_Book_At.f k y9 y2 p27.2) fun p28 =>
  (if (!y11) = true then
  J5 D H k rec0 y1 y2 y7 y9 y10 true p28.2 else
  (Option.bind (book_Book_int_Len.f y7 p28.2) fun p31 =>
  (Option.bind (y9) fun p32 =>
  (Option.bind (HS.ldSl p31.2 (HA.fld p32 1)) fun p33 =>
  (Option.bind (HS.ldSl p28.2 (HA.fld p32 1)) fun p34 =>
  (if p34 = p33 then
  (if (!decide (p31.1 = (Sl.len p33 : Int))) = true then
  J5 D H k rec0 y1 y2 y7 y9 y10 true p31.2 else
  (if (!(p26.1.2 == (decide (p28.1 ≥ 0)))) = true then
  J5 D H k rec0 y1 y2 y7 y9 y10 true p31.2 else
  (if (!(p27.1.2 == p26.1.2)) = true then
  J5 D H k rec0 y1 y2 y7 y9 y10 true p31.2 else
  (if p26.1.2 = true then
  (Option.bind (y9) fun p40 =>
  (Option.bind (HS.ldSl p31.2 (HA.fld p40 1)) fun p41 =>
  (Option.bind (HS.idx p31.2 p41 p28.1 2) fun p42 =>
  (Option.bind (HS.ldI p31.2 .i64 (HA.fld p42 1)) fun p43 =>
  (if (!decide (p26.1.1 = p43)) = true then
  J5 D H k rec0 y1 y2 y7 y9 y10 true p31.2 else
  (Option.bind (y9) fun p45 =>
  (Option.bind (HS.ldSl p31.2 (HA.fld p45 1)) fun p46 =>
  (Option.bind (HS.idx p31.2 p46 p28.1 2) fun p47 =>
  (Option.bind (HS.ldS p31.2 (HA.fld p47 0)) fun p48 =>
  (if (!decide (p27.1.1 = p48)) = true then
  J5 D H k rec0 y1 y2 y7 y9 y10 true p31.2 else
  (if (!p26.1.2) = true then
  (if (!decide (p26.1.1 = 0)) = true then
  J5 D H k rec0 y1 y2 y7 y9 y10 true p31.2 else
  J5 D H k rec0 y1 y2 y7 y9 y10 (!decide (p27.1.1 = ([] : List UInt8))) p31.2) else
  J5 D H k rec0 y1 y2 y7 y9 y10 false p31.2))))))))))) else
  (if (!p26.1.2) = true then
  (if (!decide (p26.1.1 = 0)) = true then
  J5 D H k rec0 y1 y2 y7 y9 y10 true p31.2 else
  J5 D H k rec0 y1 y2 y7 y9 y10 (!decide (p27.1.1 = ([] : List UInt8))) p31.2) else
  J5 D H k rec0 y1 y2 y7 y9 y10 false p31.2))))) else none)))))))))
theorem J4_snd {D : Dp} {H : Hd} {k : Nat} {rec0 : Sl → (List UInt8) → (Option HA) → (Option HA) → Int → HS → Option ((Bool) × HS)} (hD : DSound Try.prog base W0 D) (hH : HSound Try.prog base W0 β0 H) (hrec0 : ∀ ⦃y1 : Sl⦄ ⦃y2 : (List UInt8)⦄ ⦃y7 : (Option HA)⦄ ⦃y9 : (Option HA)⦄ ⦃y10 : Int⦄ ⦃S : HS⦄ ⦃p : (Bool) × HS⦄ ⦃g0 g3 g4 g5 g6 g8 g11 g12 g13 g14 g15 g16 g17 g18 g19 g20 g21 g22 g23 g24 g25 g26 g27 g28 g29 g30 g31 g32 g33 g34 g35 g36 g37 g38 g39 g40 g41 g42 g43 g44 g45 g46 g47 g48 g49 g50 g51 g52 g53 g54 g55 g56 g57 g58 g59 g60 g61 g62 g63 g64 g65 g66 g67 g68 g69 g70 g71 g72 g73 g74 g75 g76 g77 g78 g79 g80 g81 g82 g83 g84 g85 g86 g87 g88 g89 g90 g91 g92 g93 g94 g95 g96 g97 g98 g99 g100 g101 g102 g103 g104 g105 g106 g107 g108 g109 g110 g111 g112 g113 g114 g115 g116 g117 g118 g119 g120 g121 g122 g123 g124 g125 g126 g127 g128 g129 g130 g131 g132 g133 g134 g135 g136 g137 g138 g139 g140 g141 g142 g143 g144 g145 g146 g147 g148 g149 g150 g151 g152 g153 g154 g155 g156 g157 g158 g159 g160 g161 g162 g163 g164 g165 g166 g167 g168 g169 g170 g171 g172 g173 g174 g175 g176 g177 g178 g179 g180 g181 g182 g183 g184 g185 g186 g187 g188 : HV⦄, rec0 y1 y2 y7 y9 y10 S = some p → HRun Try.prog base W0 β0 5 none [.inLoop c43, .inBlock 0, .code c73] ⟨[g0, (Sl.hv y1), (.str y2), g3, g4, g5, g6, (.ptr y7), g8, (.ptr y9), (.int .i64 y10), g11, g12, g13, g14, g15, g16, g17, g18, g19, g20, g21, g22, g23, g24, g25, g26, g27, g28, g29, g30, g31, g32, g33, g34, g35, g36, g37, g38, g39, g40, g41, g42, g43, g44, g45, g46, g47, g48, g49, g50, g51, g52, g53, g54, g55, g56, g57, g58, g59, g60, g61, g62, g63, g64, g65, g66, g67, g68, g69, g70, g71, g72, g73, g74, g75, g76, g77, g78, g79, g80, g81, g82, g83, g84, g85, g86, g87, g88, g89, g90, g91, g92, g93, g94, g95, g96, g97, g98, g99, g100, g101, g102, g103, g104, g105, g106, g107, g108, g109, g110, g111, g112, g113, g114, g115, g116, g117, g118, g119, g120, g121, g122, g123, g124, g125, g126, g127, g128, g129, g130, g131, g132, g133, g134, g135, g136, g137, g138, g139, g140, g141, g142, g143, g144, g145, g146, g147, g148, g149, g150, g151, g152, g153, g154, g155, g156, g157, g158, g159, g160, g161, g162, g163, g164, g165, g166, g167, g168, g169, g170, g171, g172, g173, g174, g175, g176, g177, g178, g179, g180, g181, g182, g183, g184, g185, g186, g187, g188], []⟩ S (fun v S1 => v = (.bool p.1) ∧ S1 = p.2)) {y1 : Sl} {y2 : (List UInt8)} {y7 : (Option HA)} {y9 : (Option HA)} {y10 : Int} {y11 : Bool} {S : HS} {p : (Bool) × HS} {g0 g3 g4 g5 g6 g8 g12 g13 g14 g15 g16 g17 g18 g19 g20 g21 g22 g23 g24 g25 g26 g27 g28 g29 g30 g31 g32 g33 g34 g35 g36 g37 g38 g39 g40 g41 g42 g43 g44 g45 g46 g47 g48 g49 g50 g51 g52 g53 g54 g55 g56 g57 g58 g59 g60 g61 g62 g63 g64 g65 g66 g67 g68 g69 g70 g71 g72 g73 g74 g75 g76 g77 g78 g79 g80 g81 g82 g83 g84 g85 g86 g87 g88 g89 g90 g91 g92 g93 g94 g95 g96 g97 g98 g99 g100 g101 g102 g103 g104 g105 g106 g107 g108 g109 g110 g111 g112 g113 g114 g115 g116 g117 g118 g119 g120 g121 g122 g123 g124 g125 g126 g127 g128 g129 g130 g131 g132 g133 g134 g135 g136 g137 g138 g139 g140 g141 g142 g143 g144 g145 g146 g147 g148 g149 g150 g151 g152 g153 g154 g155 g156 g157 g158 g159 g160 g161 g162 g163 g164 g165 g166 g167 g168 g169 g170 g171 g172 g173 g174 g175 g176 g177 g178 g179 g180 g181 g182 g183 g184 g185 g186 g187 g188 : HV} (h : J4 D H k rec0 y1 y2 y7 y9 y10 y11 S = some p) : HRun Try.prog base W0 β0 5 none [.code c59, .inBlock 1, .code c72, .inLoop c43, .inBlock 0, .code c73] ⟨[g0, (Sl.hv y1), (.str y2), g3, g4, g5, g6, (.ptr y7), g8, (.ptr y9), (.int .i64 y10), (.bool y11), g12, g13, g14, g15, g16, g17, g18, g19, g20, g21, g22, g23, g24, g25, g26, g27, g28, g29, g30, g31, g32, g33, g34, g35, g36, g37, g38, g39, g40, g41, g42, g43, g44, g45, g46, g47, g48, g49, g50, g51, g52, g53, g54, g55, g56, g57, g58, g59, g60, g61, g62, g63, g64, g65, g66, g67, g68, g69, g70, g71, g72, g73, g74, g75, g76, g77, g78, g79, g80, g81, g82, g83, g84, g85, g86, g87, g88, g89, g90, g91, g92, g93, g94, g95, g96, g97, g98, g99, g100, g101, g102, g103, g104, g105, g106, g107, g108, g109, g110, g111, g112, g113, g114, g115, g116, g117, g118, g119, g120, g121, g122, g123, g124, g125, g126, g127, g128, g129, g130, g131, g132, g133, g134, g135, g136, g137, g138, g139, g140, g141, g142, g143, g144, g145, g146, g147, g148, g149, g150, g151, g152, g153, g154, g155, g156, g157, g158, g159, g160, g161, g162, g163, g164, g165, g166, g167, g168, g169, g170, g171, g172, g173, g174, g175, g176, g177, g178, g179, g180, g181, g182, g183, g184, g185, g186, g187, g188], []⟩ S (fun v S1 => v = (.bool p.1) ∧ S1 = p.2) := by
  unfold J4 at h
  refine q_seq e59 ?_
  refine q_region e60 rfl ?_
  refine q_op (dst := some 101) rfl (fun _ ho => ok_move ho (.tmp rfl)) ?_
  refine q_op (dst := some 102) rfl (fun _ ho => ok_move ho (.tmp rfl)) ?_
  obtain ⟨p26, hp26, h⟩ := bindo h
  refine q_call (dst := some 103) rfl (.func _) (.cons (.tmp rfl) (.cons (.tmp rfl) Evs.nil)) (HInv.static book_Book_int_Get.at_ book_Book_int_Get.body (book_Book_int_Get.snd hD hH hp26)) ?_
  rintro _ _ ⟨rfl, rfl⟩
  refine q_op (dst := some 100) rfl (fun _ ho => ok_move ho (.tmp rfl)) ?_
  try dsimp only [HAct.put, List.set_cons_zero, List.set_cons_succ]
  refine q_op (dst := some 104) rfl (fun _ ho => ok_extract ho (.tmp rfl) rfl) ?_
  refine q_op (dst := some 105) rfl (fun _ ho => ok_extract ho (.tmp rfl) rfl) ?_
  refine q_op (dst := some 12) rfl (fun _ ho => ok_assign ho (.tmp rfl)) ?_
  refine q_op (dst := some 13) rfl (fun _ ho => ok_assign ho (.tmp rfl)) ?_
  refine hr_region_end ?_
  try dsimp only [HAct.put, List.set_cons_zero, List.set_cons_succ]
  refine q_seq e61 ?_
  refine q_region e62 rfl ?_
  refine q_op (dst := some 107) rfl (fun _ ho => ok_move ho (.tmp rfl)) ?_
  refine q_op (dst := some 108) rfl (fun _ ho => ok_move ho (.tmp rfl)) ?_
  obtain ⟨p27, hp27, h⟩ := bindo h
  refine q_call (dst := some 109) rfl (.func _) (.cons (.tmp rfl) (.cons (.tmp rfl) Evs.nil)) (HInv.static book_Book_int_Name.at_ book_Book_int_Name.body (book_Book_int_Name.snd hD hH hp27)) ?_
  rintro _ _ ⟨rfl, rfl⟩
  refine q_op (dst := some 106) rfl (fun _ ho => ok_move ho (.tmp rfl)) ?_
  try dsimp only [HAct.put, List.set_cons_zero, List.set_cons_succ]
  refine q_op (dst := some 110) rfl (fun _ ho => ok_extract ho (.tmp rfl) rfl) ?_
  refine q_op (dst := some 111) rfl (fun _ ho => ok_extract ho (.tmp rfl) rfl) ?_
  refine q_op (dst := some 14) rfl (fun _ ho => ok_assign ho (.tmp rfl)) ?_
  refine q_op (dst := some 15) rfl (fun _ ho => ok_assign ho (.tmp rfl)) ?_
  refine hr_region_end ?_
  try dsimp only [HAct.put, List.set_cons_zero, List.set_cons_succ]
  refine q_seq e63 ?_
  refine q_region e64 rfl ?_
  refine q_op (dst := some 112) rfl (fun _ ho => ok_move ho (.tmp rfl)) ?_
  refine q_op (dst := some 113) rfl (fun _ ho => ok_move ho (.tmp rfl)) ?_
  obtain ⟨p28, hp28, h⟩ := bindo h
  refine q_call (dst := some 114) rfl (.func _) (.cons (.tmp rfl) (.cons (.tmp rfl) Evs.nil)) (HInv.static rollcallref02_Book_At.at_ rollcallref02_Book_At.body (rollcallref02_Book_At.snd  hp28)) ?_
  rintro _ _ ⟨rfl, rfl⟩
  refine q_op (dst := some 16) rfl (fun _ ho => ok_assign ho (.tmp rfl)) ?_
  refine hr_region_end ?_
  try dsimp only [HAct.put, List.set_cons_zero, List.set_cons_succ]
  refine q_seq e65 ?_
  refine x_start (cls := [0, 0, 0, 0, 2, 0, 0, 0, 3, 0, 0, 0, 0, 0, 0, 0, 0, 0, 0, 0, 0, 0, 0, 0, 0, 0, 0, 0, 0, 0, 1, 0, 1, 0, 1, 0, 0, 0, 0, 0, 0, 1, 0, 1, 0, 1, 0, 0, 0, 0, 0, 0, 0, 0, 0, 0, 0, 0, 0, 0, 0, 0]) (rk := [0, 1, 2, 3, 4, 5, 6, 7, 8, 9, 10, 11, 12, 13, 14, 15, 16, 17, 18, 19, 20, 21, 22, 23, 24, 25, 26, 27, 28, 29, 30, 31, 32, 33, 34, 35, 36, 37, 38, 39, 40, 41, 42, 43, 44, 45, 46, 47, 48, 49, 50, 51, 52, 53, 54, 55, 56, 57, 58, 59, 60, 61]) e66 (by kernel_rfl) ?_
  refine x_goP (f_op (dst := some 115) (ts := [11]) rfl (by intro _ _ h; cases h) (by kernel_rfl) (fun _ _ ho => ok_move ho (.tmp rfl))) rfl (by decide) (by decide) ?_
  refine x_goP (f_op (dst := some 116) (ts := [115]) rfl (by intro _ _ h; cases h) (by kernel_rfl) (fun _ _ ho => ok_not ho (.tmp rfl))) rfl (by decide) (by decide) ?_
  refine x_goP (f_op (dst := some 117) (ts := [116]) rfl (by intro _ _ h; cases h) (by kernel_rfl) (fun _ _ ho => ok_move ho (.tmp rfl))) rfl (by decide) (by decide) ?_
  rcases ifc h with ⟨hc29, h⟩ | ⟨hc29, h⟩
  · refine x_goP (f_skip (dst := some 118) (t := 117) (ts := [7, 117]) rfl (by kernel_rfl) rfl rfl hc29) rfl (by decide) (by decide) ?_
    try dsimp only [HAct.put, List.set_cons_zero, List.set_cons_succ]
    refine x_goE (e_skip (dst := some 119) (t := 117) (ts := [118, 117]) rfl (by kernel_rfl) rfl rfl hc29) rfl trivial ?_
    refine x_goP (f_skip (dst := some 120) (t := 117) (ts := [9, 117]) rfl (by kernel_rfl) rfl rfl hc29) rfl (by decide) (by decide) ?_
    refine x_goP (f_skip (dst := some 121) (t := 117) (ts := [120, 117]) rfl (by kernel_rfl) rfl rfl hc29) rfl (by decide) (by decide) ?_
    refine x_goP (f_skip (dst := some 122) (t := 117) (ts := [121, 117]) rfl (by kernel_rfl) rfl rfl hc29) rfl (by decide) (by decide) ?_
    try dsimp only [HAct.put, List.set_cons_zero, List.set_cons_succ]
    refine x_late (r_skip (dst := some 123) (t := 117) (ts := [122, 117]) rfl (by kernel_rfl) rfl rfl hc29) rfl ⟨.inr (l_skip (dst := some 123) (t := 117) (ts := [122, 117]) rfl (by kernel_rfl) rfl rfl hc29), trivial⟩ ?_
    refine x_goP (f_skip (dst := some 124) (t := 117) (ts := [123, 117]) rfl (by kernel_rfl) rfl rfl hc29) rfl (by decide) (by decide) ?_
    refine x_goP (f_skip (dst := some 125) (t := 117) (ts := [119, 124, 117]) rfl (by kernel_rfl) rfl rfl hc29) rfl (by decide) (by decide) ?_
    refine x_goP (f_op (dst := some 126) (ts := [117, 125]) rfl (by intro _ _ h; cases h) (by kernel_rfl) (fun _ _ ho => ok_pick_tt ho (.tmp rfl) hc29 (.bool _))) rfl (by decide) (by decide) ?_
    try dsimp only [HAct.put, List.set_cons_zero, List.set_cons_succ]
    refine x_goP (f_op (dst := some 127) (ts := [126]) rfl (by intro _ _ h; cases h) (by kernel_rfl) (fun _ _ ho => ok_move ho (.tmp rfl))) rfl (by decide) (by decide) ?_
    refine x_goP (f_skip (dst := some 128) (t := 127) (ts := [13, 127]) rfl (by kernel_rfl) rfl rfl rfl) rfl (by decide) (by decide) ?_
    refine x_goP (f_skip (dst := some 129) (t := 127) (ts := [16, 127]) rfl (by kernel_rfl) rfl rfl rfl) rfl (by decide) (by decide) ?_
    refine x_goP (f_skip (dst := some 130) (t := 127) (ts := [129, 127]) rfl (by kernel_rfl) rfl rfl rfl) rfl (by decide) (by decide) ?_
    try dsimp only [HAct.put, List.set_cons_zero, List.set_cons_succ]
    refine x_goP (f_skip (dst := some 131) (t := 127) (ts := [128, 130, 127]) rfl (by kernel_rfl) rfl rfl rfl) rfl (by decide) (by decide) ?_
    refine x_goP (f_op (dst := some 132) (ts := [127, 131]) rfl (by intro _ _ h; cases h) (by kernel_rfl) (fun _ _ ho => ok_pick_tt ho (.tmp rfl) rfl (.bool _))) rfl (by decide) (by decide) ?_
    refine x_goP (f_op (dst := some 133) (ts := [132]) rfl (by intro _ _ h; cases h) (by kernel_rfl) (fun _ _ ho => ok_move ho (.tmp rfl))) rfl (by decide) (by decide) ?_
    refine x_goP (f_skip (dst := some 134) (t := 133) (ts := [15, 133]) rfl (by kernel_rfl) rfl rfl rfl) rfl (by decide) (by decide) ?_
    try dsimp only [HAct.put, List.set_cons_zero, List.set_cons_succ]
    refine x_goP (f_skip (dst := some 135) (t := 133) (ts := [13, 133]) rfl (by kernel_rfl) rfl rfl rfl) rfl (by decide) (by decide) ?_
    refine x_goP (f_skip (dst := some 136) (t := 133) (ts := [134, 135, 133]) rfl (by kernel_rfl) rfl rfl rfl) rfl (by decide) (by decide) ?_
    refine x_goP (f_op (dst := some 137) (ts := [133, 136]) rfl (by intro _ _ h; cases h) (by kernel_rfl) (fun _ _ ho => ok_pick_tt ho (.tmp rfl) rfl (.bool _))) rfl (by decide) (by decide) ?_
    refine x_goP (f_op (dst := some 138) (ts := [137]) rfl (by intro _ _ h; cases h) (by kernel_rfl) (fun _ _ ho => ok_move ho (.tmp rfl))) rfl (by decide) (by decide) ?_
    try dsimp only [HAct.put, List.set_cons_zero, List.set_cons_succ]
    refine x_goP (f_skip (dst := some 139) (t := 138) (ts := [13, 138]) rfl (by kernel_rfl) rfl rfl rfl) rfl (by decide) (by decide) ?_
    refine x_goP (f_skip (dst := some 140) (t := 138) (ts := [139, 138]) rfl (by kernel_rfl) rfl rfl rfl) rfl (by decide) (by decide) ?_
    refine x_goP (f_skip_u (dst := some 141) (t := 140) (ts := [12, 140]) rfl (by kernel_rfl) rfl rfl) rfl (by decide) (by decide) ?_
    refine x_goP (f_skip_u (dst := some 142) (t := 140) (ts := [9, 140]) rfl (by kernel_rfl) rfl rfl) rfl (by decide) (by decide) ?_
    try dsimp only [HAct.put, List.set_cons_zero, List.set_cons_succ]
    refine x_goP (f_skip_u (dst := some 143) (t := 140) (ts := [142, 140]) rfl (by kernel_rfl) rfl rfl) rfl (by decide) (by decide) ?_
    refine x_goP (f_skip_u (dst := some 144) (t := 140) (ts := [143, 140]) rfl (by kernel_rfl) rfl rfl) rfl (by decide) (by decide) ?_
    refine x_goP (r_skip_u (dst := some 145) (t := 140) (ts := [144, 140]) rfl (by kernel_rfl) rfl rfl) rfl (by decide) (by decide) ?_
    refine x_goP (f_skip_u (dst := some 146) (t := 140) (ts := [16, 140]) rfl (by kernel_rfl) rfl rfl) rfl (by decide) (by decide) ?_
    try dsimp only [HAct.put, List.set_cons_zero, List.set_cons_succ]
    refine x_goP (r_skip_u (dst := some 147) (t := 140) (ts := [145, 146, 140]) rfl (by kernel_rfl) rfl rfl) rfl (by decide) (by decide) ?_
    refine x_goP (f_skip_u (dst := some 148) (t := 140) (ts := [147, 140]) rfl (by kernel_rfl) rfl rfl) rfl (by decide) (by decide) ?_
    refine x_goP (r_skip_u (dst := some 149) (t := 140) (ts := [148, 140]) rfl (by kernel_rfl) rfl rfl) rfl (by decide) (by decide) ?_
    refine x_goP (f_skip_u (dst := some 150) (t := 140) (ts := [141, 149, 140]) rfl (by kernel_rfl) rfl rfl) rfl (by decide) (by decide) ?_
    try dsimp only [HAct.put, List.set_cons_zero, List.set_cons_succ]
    refine x_goP (f_skip_u (dst := some 151) (t := 140) (ts := [150, 140]) rfl (by kernel_rfl) rfl rfl) rfl (by decide) (by decide) ?_
    refine x_goP (f_skip_u (dst := some 152) (t := 151) (ts := [14, 151]) rfl (by kernel_rfl) rfl rfl) rfl (by decide) (by decide) ?_
    refine x_goP (f_skip_u (dst := some 153) (t := 151) (ts := [9, 151]) rfl (by kernel_rfl) rfl rfl) rfl (by decide) (by decide) ?_
    refine x_goP (f_skip_u (dst := some 154) (t := 151) (ts := [153, 151]) rfl (by kernel_rfl) rfl rfl) rfl (by decide) (by decide) ?_
    try dsimp only [HAct.put, List.set_cons_zero, List.set_cons_succ]
    refine x_goP (f_skip_u (dst := some 155) (t := 151) (ts := [154, 151]) rfl (by kernel_rfl) rfl rfl) rfl (by decide) (by decide) ?_
    refine x_goP (r_skip_u (dst := some 156) (t := 151) (ts := [155, 151]) rfl (by kernel_rfl) rfl rfl) rfl (by decide) (by decide) ?_
    refine x_goP (f_skip_u (dst := some 157) (t := 151) (ts := [16, 151]) rfl (by kernel_rfl) rfl rfl) rfl (by decide) (by decide) ?_
    refine x_goP (r_skip_u (dst := some 158) (t := 151) (ts := [156, 157, 151]) rfl (by kernel_rfl) rfl rfl) rfl (by decide) (by decide) ?_
    try dsimp only [HAct.put, List.set_cons_zero, List.set_cons_succ]
    refine x_goP (f_skip_u (dst := some 159) (t := 151) (ts := [158, 151]) rfl (by kernel_rfl) rfl rfl) rfl (by decide) (by decide) ?_
    refine x_goP (r_skip_u (dst := some 160) (t := 151) (ts := [159, 151]) rfl (by kernel_rfl) rfl rfl) rfl (by decide) (by decide) ?_
    refine x_goP (f_skip_u (dst := some 161) (t := 151) (ts := [152, 160, 151]) rfl (by kernel_rfl) rfl rfl) rfl (by decide) (by decide) ?_
    refine x_goP (f_skip_u (dst := some 162) (t := 140) (ts := [151, 161, 140]) rfl (by kernel_rfl) rfl rfl) rfl (by decide) (by decide) ?_
    try dsimp only [HAct.put, List.set_cons_zero, List.set_cons_succ]
    refine x_goP (f_skip (dst := some 163) (t := 138) (ts := [140, 162, 138]) rfl (by kernel_rfl) rfl rfl rfl) rfl (by decide) (by decide) ?_
    refine x_goP (f_op (dst := some 164) (ts := [138, 163]) rfl (by intro _ _ h; cases h) (by kernel_rfl) (fun _ _ ho => ok_pick_tt ho (.tmp rfl) rfl (.bool _))) rfl (by decide) (by decide) ?_
    refine x_goP (f_op (dst := some 165) (ts := [164]) rfl (by intro _ _ h; cases h) (by kernel_rfl) (fun _ _ ho => ok_move ho (.tmp rfl))) rfl (by decide) (by decide) ?_
    refine x_goP (f_skip (dst := some 166) (t := 165) (ts := [13, 165]) rfl (by kernel_rfl) rfl rfl rfl) rfl (by decide) (by decide) ?_
    try dsimp only [HAct.put, List.set_cons_zero, List.set_cons_succ]
    refine x_goP (f_skip (dst := some 167) (t := 165) (ts := [166, 165]) rfl (by kernel_rfl) rfl rfl rfl) rfl (by decide) (by decide) ?_
    refine x_goP (f_skip (dst := some 168) (t := 165) (ts := [167, 165]) rfl (by kernel_rfl) rfl rfl rfl) rfl (by decide) (by decide) ?_
    refine x_goP (f_skip_u (dst := some 169) (t := 168) (ts := [12, 168]) rfl (by kernel_rfl) rfl rfl) rfl (by decide) (by decide) ?_
    refine x_goP (f_skip_u (dst := some 170) (t := 168) (ts := [169, 168]) rfl (by kernel_rfl) rfl rfl) rfl (by decide) (by decide) ?_
    try dsimp only [HAct.put, List.set_cons_zero, List.set_cons_succ]
    refine x_goP (f_skip_u (dst := some 171) (t := 168) (ts := [170, 168]) rfl (by kernel_rfl) rfl rfl) rfl (by decide) (by decide) ?_
    refine x_goP (f_skip_u (dst := some 172) (t := 171) (ts := [14, 171]) rfl (by kernel_rfl) rfl rfl) rfl (by decide) (by decide) ?_
    refine x_goP (f_skip_u (dst := some 173) (t := 171) (ts := [172, 171]) rfl (by kernel_rfl) rfl rfl) rfl (by decide) (by decide) ?_
    refine x_goP (f_skip_u (dst := some 174) (t := 168) (ts := [171, 173, 168]) rfl (by kernel_rfl) rfl rfl) rfl (by decide) (by decide) ?_
    try dsimp only [HAct.put, List.set_cons_zero, List.set_cons_succ]
    refine x_goP (f_skip (dst := some 175) (t := 165) (ts := [168, 174, 165]) rfl (by kernel_rfl) rfl rfl rfl) rfl (by decide) (by decide) ?_
    refine x_goP (f_op (dst := some 176) (ts := [165, 175]) rfl (by intro _ _ h; cases h) (by kernel_rfl) (fun _ _ ho => ok_pick_tt ho (.tmp rfl) rfl (.bool _))) rfl (by decide) (by decide) ?_
    refine x_rest rfl ?_
    refine hr_region_end ?_
    try dsimp only [HAct.put, List.set_cons_zero, List.set_cons_succ]
    try dsimp only [HAct.put, List.set_cons_zero, List.set_cons_succ]
    exact J5_snd hD hH hrec0 h
  · refine x_goP (f_op_g (dst := some 118) (t := 117) (ts := [7, 117]) rfl (by intro _ _ h; cases h) (by kernel_rfl) rfl rfl (bfalse hc29) (fun _ _ ho => ok_move ho (.tmp rfl))) rfl (by decide) (by decide) ?_
    try dsimp only [HAct.put, List.set_cons_zero, List.set_cons_succ]
    obtain ⟨p31, hp31, h⟩ := bindo h
    refine x_goE (e_call_g (dst := some 119) (t := 117) (ts := [118, 117]) rfl (by kernel_rfl) rfl rfl (bfalse hc29) (.func _) (.cons (.tmp rfl) Evs.nil) (HInv.static book_Book_int_Len.at_ book_Book_int_Len.body (book_Book_int_Len.snd  hp31))) rfl trivial ?_
    refine x_goP (f_op_g (dst := some 120) (t := 117) (ts := [9, 117]) rfl (by intro _ _ h; cases h) (by kernel_rfl) rfl rfl (bfalse hc29) (fun _ _ ho => ok_move ho (.tmp rfl))) rfl (by decide) (by decide) ?_
    obtain ⟨p32, hp32, h⟩ := bindo h
    refine x_goP (f_op_g (dst := some 121) (t := 117) (ts := [120, 117]) rfl (by intro _ _ h; cases h) (by kernel_rfl) rfl rfl (bfalse hc29) (fun _ _ ho => ok_nilCheck_p ho (.tmp rfl) hp32)) rfl (by decide) (by decide) ?_
    refine x_goP (f_op_g (dst := some 122) (t := 117) (ts := [121, 117]) rfl (by intro _ _ h; cases h) (by kernel_rfl) rfl rfl (bfalse hc29) (fun _ _ ho => ok_fieldAddr_s ho fi50_1 (by decide) (.tmp rfl) rfl)) rfl (by decide) (by decide) ?_
    try dsimp only [HAct.put, List.set_cons_zero, List.set_cons_succ]
    obtain ⟨p33, hp33, h⟩ := bindo h
    obtain ⟨p34, hp34, h⟩ := bindo h
    obtain ⟨hg35, h⟩ := gd h
    refine x_late (r_op_g (dst := some 123) (t := 117) (ts := [122, 117]) rfl (by intro _ _ h; cases h) (by kernel_rfl) rfl rfl (bfalse hc29) (fun _ ho => ok_load_s ho sc48 (.tmp rfl) rfl (ldSl_out hp33))) rfl ⟨.inr (l_op_g (dst := some 123) (t := 117) (ts := [122, 117]) rfl (by intro _ _ h; cases h) (by kernel_rfl) rfl rfl (bfalse hc29) (fun _ ho => ok_load_s ho sc48 (.tmp rfl) rfl (ldSl_out (hp34.trans (congrArg some hg35))))), trivial⟩ ?_
    refine x_goP (f_op_g (dst := some 124) (t := 117) (ts := [123, 117]) rfl (by intro _ _ h; cases h) (by kernel_rfl) rfl rfl (bfalse hc29) (fun _ _ ho => ok_len_sl (q := Sl.a p33) (n := Sl.len p33) (z := Sl.cap p33) ho rfl tu48 (.tmp rfl))) rfl (by decide) (by decide) ?_
    refine x_goP (f_op_g (dst := some 125) (t := 117) (ts := [119, 124, 117]) rfl (by intro _ _ h; cases h) (by kernel_rfl) rfl rfl (bfalse hc29) (fun _ _ ho => ok_ibin ho (.tmp rfl) (.tmp rfl) rfl)) rfl (by decide) (by decide) ?_
    refine x_goP (f_op (dst := some 126) (ts := [117, 125]) rfl (by intro _ _ h; cases h) (by kernel_rfl) (fun _ _ ho => ok_pick_ff ho (.tmp rfl) (bfalse hc29) (.tmp rfl))) rfl (by decide) (by decide) ?_
    try dsimp only [HAct.put, List.set_cons_zero, List.set_cons_succ]
    refine x_goP (f_op (dst := some 127) (ts := [126]) rfl (by intro _ _ h; cases h) (by kernel_rfl) (fun _ _ ho => ok_move ho (.tmp rfl))) rfl (by decide) (by decide) ?_
    rcases ifc h with ⟨hc36, h⟩ | ⟨hc36, h⟩
    · refine x_goP (f_skip (dst := some 128) (t := 127) (ts := [13, 127]) rfl (by kernel_rfl) rfl rfl hc36) rfl (by decide) (by decide) ?_
      refine x_goP (f_skip (dst := some 129) (t := 127) (ts := [16, 127]) rfl (by kernel_rfl) rfl rfl hc36) rfl (by decide) (by decide) ?_
      refine x_goP (f_skip (dst := some 130) (t := 127) (ts := [129, 127]) rfl (by kernel_rfl) rfl rfl hc36) rfl (by decide) (by decide) ?_
      try dsimp only [HAct.put, List.set_cons_zero, List.set_cons_succ]
      refine x_goP (f_skip (dst := some 131) (t := 127) (ts := [128, 130, 127]) rfl (by kernel_rfl) rfl rfl hc36) rfl (by decide) (by decide) ?_
      refine x_goP (f_op (dst := some 132) (ts := [127, 131]) rfl (by intro _ _ h; cases h) (by kernel_rfl) (fun _ _ ho => ok_pick_tt ho (.tmp rfl) hc36 (.bool _))) rfl (by decide) (by decide) ?_
      refine x_goP (f_op (dst := some 133) (ts := [132]) rfl (by intro _ _ h; cases h) (by kernel_rfl) (fun _ _ ho => ok_move ho (.tmp rfl))) rfl (by decide) (by decide) ?_
      refine x_goP (f_skip (dst := some 134) (t := 133) (ts := [15, 133]) rfl (by kernel_rfl) rfl rfl rfl) rfl (by decide) (by decide) ?_
      try dsimp only [HAct.put, List.set_cons_zero, List.set_cons_succ]
      refine x_goP (f_skip (dst := some 135) (t := 133) (ts := [13, 133]) rfl (by kernel_rfl) rfl rfl rfl) rfl (by decide) (by decide) ?_
      refine x_goP (f_skip (dst := some 136) (t := 133) (ts := [134, 135, 133]) rfl (by kernel_rfl) rfl rfl rfl) rfl (by decide) (by decide) ?_
      refine x_goP (f_op (dst := some 137) (ts := [133, 136]) rfl (by intro _ _ h; cases h) (by kernel_rfl) (fun _ _ ho => ok_pick_tt ho (.tmp rfl) rfl (.bool _))) rfl (by decide) (by decide) ?_
      refine x_goP (f_op (dst := some 138) (ts := [137]) rfl (by intro _ _ h; cases h) (by kernel_rfl) (fun _ _ ho => ok_move ho (.tmp rfl))) rfl (by decide) (by decide) ?_
      try dsimp only [HAct.put, List.set_cons_zero, List.set_cons_succ]
      refine x_goP (f_skip (dst := some 139) (t := 138) (ts := [13, 138]) rfl (by kernel_rfl) rfl rfl rfl) rfl (by decide) (by decide) ?_
      refine x_goP (f_skip (dst := some 140) (t := 138) (ts := [139, 138]) rfl (by kernel_rfl) rfl rfl rfl) rfl (by decide) (by decide) ?_
      refine x_goP (f_skip_u (dst := some 141) (t := 140) (ts := [12, 140]) rfl (by kernel_rfl) rfl rfl) rfl (by decide) (by decide) ?_
      refine x_goP (f_skip_u (dst := some 142) (t := 140) (ts := [9, 140]) rfl (by kernel_rfl) rfl rfl) rfl (by decide) (by decide) ?_
      try dsimp only [HAct.put, List.set_cons_zero, List.set_cons_succ]
      refine x_goP (f_skip_u (dst := some 143) (t := 140) (ts := [142, 140]) rfl (by kernel_rfl) rfl rfl) rfl (by decide) (by decide) ?_
      refine x_goP (f_skip_u (dst := some 144) (t := 140) (ts := [143, 140]) rfl (by kernel_rfl) rfl rfl) rfl (by decide) (by decide) ?_
      refine x_goP (r_skip_u (dst := some 145) (t := 140) (ts := [144, 140]) rfl (by kernel_rfl) rfl rfl) rfl (by decide) (by decide) ?_
      refine x_goP (f_skip_u (dst := some 146) (t := 140) (ts := [16, 140]) rfl (by kernel_rfl) rfl rfl) rfl (by decide) (by decide) ?_
      try dsimp only [HAct.put, List.set_cons_zero, List.set_cons_succ]
      refine x_goP (r_skip_u (dst := some 147) (t := 140) (ts := [145, 146, 140]) rfl (by kernel_rfl) rfl rfl) rfl (by decide) (by decide) ?_
      refine x_goP (f_skip_u (dst := some 148) (t := 140) (ts := [147, 140]) rfl (by kernel_rfl) rfl rfl) rfl (by decide) (by decide) ?_
      refine x_goP (r_skip_u (dst := some 149) (t := 140) (ts := [148, 140]) rfl (by kernel_rfl) rfl rfl) rfl (by decide) (by decide) ?_
      refine x_goP (f_skip_u (dst := some 150) (t := 140) (ts := [141, 149, 140]) rfl (by kernel_rfl) rfl rfl) rfl (by decide) (by decide) ?_
      try dsimp only [HAct.put, List.set_cons_zero, List.set_cons_succ]
      refine x_goP (f_skip_u (dst := some 151) (t := 140) (ts := [150, 140]) rfl (by kernel_rfl) rfl rfl) rfl (by decide) (by decide) ?_
      refine x_goP (f_skip_u (dst := some 152) (t := 151) (ts := [14, 151]) rfl (by kernel_rfl) rfl rfl) rfl (by decide) (by decide) ?_
      refine x_goP (f_skip_u (dst := some 153) (t := 151) (ts := [9, 151]) rfl (by kernel_rfl) rfl rfl) rfl (by decide) (by decide) ?_
      refine x_goP (f_skip_u (dst := some 154) (t := 151) (ts := [153, 151]) rfl (by kernel_rfl) rfl rfl) rfl (by decide) (by decide) ?_
      try dsimp only [HAct.put, List.set_cons_zero, List.set_cons_succ]
      refine x_goP (f_skip_u (dst := some 155) (t := 151) (ts := [154, 151]) rfl (by kernel_rfl) rfl rfl) rfl (by decide) (by decide) ?_
      refine x_goP (r_skip_u (dst := some 156) (t := 151) (ts := [155, 151]) rfl (by kernel_rfl) rfl rfl) rfl (by decide) (by decide) ?_
      refine x_goP (f_skip_u (dst := some 157) (t := 151) (ts := [16, 151]) rfl (by kernel_rfl) rfl rfl) rfl (by decide) (by decide) ?_
      refine x_goP (r_skip_u (dst := some 158) (t := 151) (ts := [156, 157, 151]) rfl (by kernel_rfl) rfl rfl) rfl (by decide) (by decide) ?_
      try dsimp only [HAct.put, List.set_cons_zero, List.set_cons_succ]
      refine x_goP (f_skip_u (dst := some 159) (t := 151) (ts := [158, 151]) rfl (by kernel_rfl) rfl rfl) rfl (by decide) (by decide) ?_
      refine x_goP (r_skip_u (dst := some 160) (t := 151) (ts := [159, 151]) rfl (by kernel_rfl) rfl rfl) rfl (by decide) (by decide) ?_
      refine x_goP (f_skip_u (dst := some 161) (t := 151) (ts := [152, 160, 151]) rfl (by kernel_rfl) rfl rfl) rfl (by decide) (by decide) ?_
      refine x_goP (f_skip_u (dst := some 162) (t := 140) (ts := [151, 161, 140]) rfl (by kernel_rfl) rfl rfl) rfl (by decide) (by decide) ?_
      try dsimp only [HAct.put, List.set_cons_zero, List.set_cons_succ]
      refine x_goP (f_skip (dst := some 163) (t := 138) (ts := [140, 162, 138]) rfl (by kernel_rfl) rfl rfl rfl) rfl (by decide) (by decide) ?_
      refine x_goP (f_op (dst := some 164) (ts := [138, 163]) rfl (by intro _ _ h; cases h) (by kernel_rfl) (fun _ _ ho => ok_pick_tt ho (.tmp rfl) rfl (.bool _))) rfl (by decide) (by decide) ?_
      refine x_goP (f_op (dst := some 165) (ts := [164]) rfl (by intro _ _ h; cases h) (by kernel_rfl) (fun _ _ ho => ok_move ho (.tmp rfl))) rfl (by decide) (by decide) ?_
      refine x_goP (f_skip (dst := some 166) (t := 165) (ts := [13, 165]) rfl (by kernel_rfl) rfl rfl rfl) rfl (by decide) (by decide) ?_
      try dsimp only [HAct.put, List.set_cons_zero, List.set_cons_succ]
      refine x_goP (f_skip (dst := some 167) (t := 165) (ts := [166, 165]) rfl (by kernel_rfl) rfl rfl rfl) rfl (by decide) (by decide) ?_
      refine x_goP (f_skip (dst := some 168) (t := 165) (ts := [167, 165]) rfl (by kernel_rfl) rfl rfl rfl) rfl (by decide) (by decide) ?_
      refine x_goP (f_skip_u (dst := some 169) (t := 168) (ts := [12, 168]) rfl (by kernel_rfl) rfl rfl) rfl (by decide) (by decide) ?_
      refine x_goP (f_skip_u (dst := some 170) (t := 168) (ts := [169, 168]) rfl (by kernel_rfl) rfl rfl) rfl (by decide) (by decide) ?_
      try dsimp only [HAct.put, List.set_cons_zero, List.set_cons_succ]
      refine x_goP (f_skip_u (dst := some 171) (t := 168) (ts := [170, 168]) rfl (by kernel_rfl) rfl rfl) rfl (by decide) (by decide) ?_
      refine x_goP (f_skip_u (dst := some 172) (t := 171) (ts := [14, 171]) rfl (by kernel_rfl) rfl rfl) rfl (by decide) (by decide) ?_
      refine x_goP (f_skip_u (dst := some 173) (t := 171) (ts := [172, 171]) rfl (by kernel_rfl) rfl rfl) rfl (by decide) (by decide) ?_
      refine x_goP (f_skip_u (dst := some 174) (t := 168) (ts := [171, 173, 168]) rfl (by kernel_rfl) rfl rfl) rfl (by decide) (by decide) ?_
      try dsimp only [HAct.put, List.set_cons_zero, List.set_cons_succ]
      refine x_goP (f_skip (dst := some 175) (t := 165) (ts := [168, 174, 165]) rfl (by kernel_rfl) rfl rfl rfl) rfl (by decide) (by decide) ?_
      refine x_goP (f_op (dst := some 176) (ts := [165, 175]) rfl (by intro _ _ h; cases h) (by kernel_rfl) (fun _ _ ho => ok_pick_tt ho (.tmp rfl) rfl (.bool _))) rfl (by decide) (by decide) ?_
      refine x_rest rfl ?_
      refine hr_region_end ?_
      try dsimp only [HAct.put, List.set_cons_zero, List.set_cons_succ]
      try dsimp only [HAct.put, List.set_cons_zero, List.set_cons_succ]
      exact J5_snd hD hH hrec0 h
    · refine x_goP (f_op_g (dst := some 128) (t := 127) (ts := [13, 127]) rfl (by intro _ _ h; cases h) (by kernel_rfl) rfl rfl (bfalse hc36) (fun _ _ ho => ok_move ho (.tmp rfl))) rfl (by decide) (by decide) ?_
      refine x_goP (f_op_g (dst := some 129) (t := 127) (ts := [16, 127]) rfl (by intro _ _ h; cases h) (by kernel_rfl) rfl rfl (bfalse hc36) (fun _ _ ho => ok_move ho (.tmp rfl))) rfl (by decide) (by decide) ?_
      refine x_goP (f_op_g (dst := some 130) (t := 127) (ts := [129, 127]) rfl (by intro _ _ h; cases h) (by kernel_rfl) rfl rfl (bfalse hc36) (fun _ _ ho => ok_ibin ho (.tmp rfl) (.int _ _) rfl)) rfl (by decide) (by decide) ?_
      try dsimp only [HAct.put, List.set_cons_zero, List.set_cons_succ]
      refine x_goP (f_op_g (dst := some 131) (t := 127) (ts := [128, 130, 127]) rfl (by intro _ _ h; cases h) (by kernel_rfl) rfl rfl (bfalse hc36) (fun _ _ ho => ok_beq ho tu4 (.inr ⟨rfl, rfl⟩) (.tmp rfl) (.tmp rfl))) rfl (by decide) (by decide) ?_
      refine x_goP (f_op (dst := some 132) (ts := [127, 131]) rfl (by intro _ _ h; cases h) (by kernel_rfl) (fun _ _ ho => ok_pick_ff ho (.tmp rfl) (bfalse hc36) (.tmp rfl))) rfl (by decide) (by decide) ?_
      refine x_goP (f_op (dst := some 133) (ts := [132]) rfl (by intro _ _ h; cases h) (by kernel_rfl) (fun _ _ ho => ok_move ho (.tmp rfl))) rfl (by decide) (by decide) ?_
      rcases ifc h with ⟨hc37, h⟩ | ⟨hc37, h⟩
      · refine x_goP (f_skip (dst := some 134) (t := 133) (ts := [15, 133]) rfl (by kernel_rfl) rfl rfl hc37) rfl (by decide) (by decide) ?_
        try dsimp only [HAct.put, List.set_cons_zero, List.set_cons_succ]
        refine x_goP (f_skip (dst := some 135) (t := 133) (ts := [13, 133]) rfl (by kernel_rfl) rfl rfl hc37) rfl (by decide) (by decide) ?_
        refine x_goP (f_skip (dst := some 136) (t := 133) (ts := [134, 135, 133]) rfl (by kernel_rfl) rfl rfl hc37) rfl (by decide) (by decide) ?_
        refine x_goP (f_op (dst := some 137) (ts := [133, 136]) rfl (by intro _ _ h; cases h) (by kernel_rfl) (fun _ _ ho => ok_pick_tt ho (.tmp rfl) hc37 (.bool _))) rfl (by decide) (by decide) ?_
        refine x_goP (f_op (dst := some 138) (ts := [137]) rfl (by intro _ _ h; cases h) (by kernel_rfl) (fun _ _ ho => ok_move ho (.tmp rfl))) rfl (by decide) (by decide) ?_
        try dsimp only [HAct.put, List.set_cons_zero, List.set_cons_succ]
        refine x_goP (f_skip (dst := some 139) (t := 138) (ts := [13, 138]) rfl (by kernel_rfl) rfl rfl rfl) rfl (by decide) (by decide) ?_
        refine x_goP (f_skip (dst := some 140) (t := 138) (ts := [139, 138]) rfl (by kernel_rfl) rfl rfl rfl) rfl (by decide) (by decide) ?_
        refine x_goP (f_skip_u (dst := some 141) (t := 140) (ts := [12, 140]) rfl (by kernel_rfl) rfl rfl) rfl (by decide) (by decide) ?_
        refine x_goP (f_skip_u (dst := some 142) (t := 140) (ts := [9, 140]) rfl (by kernel_rfl) rfl rfl) rfl (by decide) (by decide) ?_
        try dsimp only [HAct.put, List.set_cons_zero, List.set_cons_succ]
        refine x_goP (f_skip_u (dst := some 143) (t := 140) (ts := [142, 140]) rfl (by kernel_rfl) rfl rfl) rfl (by decide) (by decide) ?_
        refine x_goP (f_skip_u (dst := some 144) (t := 140) (ts := [143, 140]) rfl (by kernel_rfl) rfl rfl) rfl (by decide) (by decide) ?_
        refine x_goP (r_skip_u (dst := some 145) (t := 140) (ts := [144, 140]) rfl (by kernel_rfl) rfl rfl) rfl (by decide) (by decide) ?_
        refine x_goP (f_skip_u (dst := some 146) (t := 140) (ts := [16, 140]) rfl (by kernel_rfl) rfl rfl) rfl (by decide) (by decide) ?_
        try dsimp only [HAct.put, List.set_cons_zero, List.set_cons_succ]
        refine x_goP (r_skip_u (dst := some 147) (t := 140) (ts := [145, 146, 140]) rfl (by kernel_rfl) rfl rfl) rfl (by decide) (by decide) ?_
        refine x_goP (f_skip_u (dst := some 148) (t := 140) (ts := [147, 140]) rfl (by kernel_rfl) rfl rfl) rfl (by decide) (by decide) ?_
        refine x_goP (r_skip_u (dst := some 149) (t := 140) (ts := [148, 140]) rfl (by kernel_rfl) rfl rfl) rfl (by decide) (by decide) ?_
        refine x_goP (f_skip_u (dst := some 150) (t := 140) (ts := [141, 149, 140]) rfl (by kernel_rfl) rfl rfl) rfl (by decide) (by decide) ?_
        try dsimp only [HAct.put, List.set_cons_zero, List.set_cons_succ]
        refine x_goP (f_skip_u (dst := some 151) (t := 140) (ts := [150, 140]) rfl (by kernel_rfl) rfl rfl) rfl (by decide) (by decide) ?_
        refine x_goP (f_skip_u (dst := some 152) (t := 151) (ts := [14, 151]) rfl (by kernel_rfl) rfl rfl) rfl (by decide) (by decide) ?_
        refine x_goP (f_skip_u (dst := some 153) (t := 151) (ts := [9, 151]) rfl (by kernel_rfl) rfl rfl) rfl (by decide) (by decide) ?_
        refine x_goP (f_skip_u (dst := some 154) (t := 151) (ts := [153, 151]) rfl (by kernel_rfl) rfl rfl) rfl (by decide) (by decide) ?_
        try dsimp only [HAct.put, List.set_cons_zero, List.set_cons_succ]
        refine x_goP (f_skip_u (dst := some 155) (t := 151) (ts := [154, 151]) rfl (by kernel_rfl) rfl rfl) rfl (by decide) (by decide) ?_
        refine x_goP (r_skip_u (dst := some 156) (t := 151) (ts := [155, 151]) rfl (by kernel_rfl) rfl rfl) rfl (by decide) (by decide) ?_
        refine x_goP (f_skip_u (dst := some 157) (t := 151) (ts := [16, 151]) rfl (by kernel_rfl) rfl rfl) rfl (by decide) (by decide) ?_
        refine x_goP (r_skip_u (dst := some 158) (t := 151) (ts := [156, 157, 151]) rfl (by kernel_rfl) rfl rfl) rfl (by decide) (by decide) ?_
        try dsimp only [HAct.put, List.set_cons_zero, List.set_cons_succ]
        refine x_goP (f_skip_u (dst := some 159) (t := 151) (ts := [158, 151]) rfl (by kernel_rfl) rfl rfl) rfl (by decide) (by decide) ?_
        refine x_goP (r_skip_u (dst := some 160) (t := 151) (ts := [159, 151]) rfl (by kernel_rfl) rfl rfl) rfl (by decide) (by decide) ?_
        refine x_goP (f_skip_u (dst := some 161) (t := 151) (ts := [152, 160, 151]) rfl (by kernel_rfl) rfl rfl) rfl (by decide) (by decide) ?_
        refine x_goP (f_skip_u (dst := some 162) (t := 140) (ts := [151, 161, 140]) rfl (by kernel_rfl) rfl rfl) rfl (by decide) (by decide) ?_
        try dsimp only [HAct.put, List.set_cons_zero, List.set_cons_succ]
        refine x_goP (f_skip (dst := some 163) (t := 138) (ts := [140, 162, 138]) rfl (by kernel_rfl) rfl rfl rfl) rfl (by decide) (by decide) ?_
        refine x_goP (f_op (dst := some 164) (ts := [138, 163]) rfl (by intro _ _ h; cases h) (by kernel_rfl) (fun _ _ ho => ok_pick_tt ho (.tmp rfl) rfl (.bool _))) rfl (by decide) (by decide) ?_
        refine x_goP (f_op (dst := some 165) (ts := [164]) rfl (by intro _ _ h; cases h) (by kernel_rfl) (fun _ _ ho => ok_move ho (.tmp rfl))) rfl (by decide) (by decide) ?_
        refine x_goP (f_skip (dst := some 166) (t := 165) (ts := [13, 165]) rfl (by kernel_rfl) rfl rfl rfl) rfl (by decide) (by decide) ?_
        try dsimp only [HAct.put, List.set_cons_zero, List.set_cons_succ]
        refine x_goP (f_skip (dst := some 167) (t := 165) (ts := [166, 165]) rfl (by kernel_rfl) rfl rfl rfl) rfl (by decide) (by decide) ?_
        refine x_goP (f_skip (dst := some 168) (t := 165) (ts := [167, 165]) rfl (by kernel_rfl) rfl rfl rfl) rfl (by decide) (by decide) ?_
        refine x_goP (f_skip_u (dst := some 169) (t := 168) (ts := [12, 168]) rfl (by kernel_rfl) rfl rfl) rfl (by decide) (by decide) ?_
        refine x_goP (f_skip_u (dst := some 170) (t := 168) (ts := [169, 168]) rfl (by kernel_rfl) rfl rfl) rfl (by decide) (by decide) ?_
        try dsimp only [HAct.put, List.set_cons_zero, List.set_cons_succ]
        refine x_goP (f_skip_u (dst := some 171) (t := 168) (ts := [170, 168]) rfl (by kernel_rfl) rfl rfl) rfl (by decide) (by decide) ?_
        refine x_goP (f_skip_u (dst := some 172) (t := 171) (ts := [14, 171]) rfl (by kernel_rfl) rfl rfl) rfl (by decide) (by decide) ?_
        refine x_goP (f_skip_u (dst := some 173) (t := 171) (ts := [172, 171]) rfl (by kernel_rfl) rfl rfl) rfl (by decide) (by decide) ?_
        refine x_goP (f_skip_u (dst := some 174) (t := 168) (ts := [171, 173, 168]) rfl (by kernel_rfl) rfl rfl) rfl (by decide) (by decide) ?_
        try dsimp only [HAct.put, List.set_cons_zero, List.set_cons_succ]
        refine x_goP (f_skip (dst := some 175) (t := 165) (ts := [168, 174, 165]) rfl (by kernel_rfl) rfl rfl rfl) rfl (by decide) (by decide) ?_
        refine x_goP (f_op (dst := some 176) (ts := [165, 175]) rfl (by intro _ _ h; cases h) (by kernel_rfl) (fun _ _ ho => ok_pick_tt ho (.tmp rfl) rfl (.bool _))) rfl (by decide) (by decide) ?_
        refine x_rest rfl ?_
        refine hr_region_end ?_
        try dsimp only [HAct.put, List.set_cons_zero, List.set_cons_succ]
        try dsimp only [HAct.put, List.set_cons_zero, List.set_cons_succ]
        exact J5_snd hD hH hrec0 h
      · refine x_goP (f_op_g (dst := some 134) (t := 133) (ts := [15, 133]) rfl (by intro _ _ h; cases h) (by kernel_rfl) rfl rfl (bfalse hc37) (fun _ _ ho => ok_move ho (.tmp rfl))) rfl (by decide) (by decide) ?_
        try dsimp only [HAct.put, List.set_cons_zero, List.set_cons_succ]
        refine x_goP (f_op_g (dst := some 135) (t := 133) (ts := [13, 133]) rfl (by intro _ _ h; cases h) (by kernel_rfl) rfl rfl (bfalse hc37) (fun _ _ ho => ok_move ho (.tmp rfl))) rfl (by decide) (by decide) ?_
        refine x_goP (f_op_g (dst := some 136) (t := 133) (ts := [134, 135, 133]) rfl (by intro _ _ h; cases h) (by kernel_rfl) rfl rfl (bfalse hc37) (fun _ _ ho => ok_beq ho tu4 (.inr ⟨rfl, rfl⟩) (.tmp rfl) (.tmp rfl))) rfl (by decide) (by decide) ?_
        refine x_goP (f_op (dst := some 137) (ts := [133, 136]) rfl (by intro _ _ h; cases h) (by kernel_rfl) (fun _ _ ho => ok_pick_ff ho (.tmp rfl) (bfalse hc37) (.tmp rfl))) rfl (by decide) (by decide) ?_
        refine x_goP (f_op (dst := some 138) (ts := [137]) rfl (by intro _ _ h; cases h) (by kernel_rfl) (fun _ _ ho => ok_move ho (.tmp rfl))) rfl (by decide) (by decide) ?_
        try dsimp only [HAct.put, List.set_cons_zero, List.set_cons_succ]
        rcases ifc h with ⟨hc38, h⟩ | ⟨hc38, h⟩
        · refine x_goP (f_skip (dst := some 139) (t := 138) (ts := [13, 138]) rfl (by kernel_rfl) rfl rfl hc38) rfl (by decide) (by decide) ?_
          refine x_goP (f_skip (dst := some 140) (t := 138) (ts := [139, 138]) rfl (by kernel_rfl) rfl rfl hc38) rfl (by decide) (by decide) ?_
          refine x_goP (f_skip_u (dst := some 141) (t := 140) (ts := [12, 140]) rfl (by kernel_rfl) rfl rfl) rfl (by decide) (by decide) ?_
          refine x_goP (f_skip_u (dst := some 142) (t := 140) (ts := [9, 140]) rfl (by kernel_rfl) rfl rfl) rfl (by decide) (by decide) ?_
          try dsimp only [HAct.put, List.set_cons_zero, List.set_cons_succ]
          refine x_goP (f_skip_u (dst := some 143) (t := 140) (ts := [142, 140]) rfl (by kernel_rfl) rfl rfl) rfl (by decide) (by decide) ?_
          refine x_goP (f_skip_u (dst := some 144) (t := 140) (ts := [143, 140]) rfl (by kernel_rfl) rfl rfl) rfl (by decide) (by decide) ?_
          refine x_goP (r_skip_u (dst := some 145) (t := 140) (ts := [144, 140]) rfl (by kernel_rfl) rfl rfl) rfl (by decide) (by decide) ?_
          refine x_goP (f_skip_u (dst := some 146) (t := 140) (ts := [16, 140]) rfl (by kernel_rfl) rfl rfl) rfl (by decide) (by decide) ?_
          try dsimp only [HAct.put, List.set_cons_zero, List.set_cons_succ]
          refine x_goP (r_skip_u (dst := some 147) (t := 140) (ts := [145, 146, 140]) rfl (by kernel_rfl) rfl rfl) rfl (by decide) (by decide) ?_
          refine x_goP (f_skip_u (dst := some 148) (t := 140) (ts := [147, 140]) rfl (by kernel_rfl) rfl rfl) rfl (by decide) (by decide) ?_
          refine x_goP (r_skip_u (dst := some 149) (t := 140) (ts := [148, 140]) rfl (by kernel_rfl) rfl rfl) rfl (by decide) (by decide) ?_
          refine x_goP (f_skip_u (dst := some 150) (t := 140) (ts := [141, 149, 140]) rfl (by kernel_rfl) rfl rfl) rfl (by decide) (by decide) ?_
          try dsimp only [HAct.put, List.set_cons_zero, List.set_cons_succ]
          refine x_goP (f_skip_u (dst := some 151) (t := 140) (ts := [150, 140]) rfl (by kernel_rfl) rfl rfl) rfl (by decide) (by decide) ?_
          refine x_goP (f_skip_u (dst := some 152) (t := 151) (ts := [14, 151]) rfl (by kernel_rfl) rfl rfl) rfl (by decide) (by decide) ?_
          refine x_goP (f_skip_u (dst := some 153) (t := 151) (ts := [9, 151]) rfl (by kernel_rfl) rfl rfl) rfl (by decide) (by decide) ?_
          refine x_goP (f_skip_u (dst := some 154) (t := 151) (ts := [153, 151]) rfl (by kernel_rfl) rfl rfl) rfl (by decide) (by decide) ?_
          try dsimp only [HAct.put, List.set_cons_zero, List.set_cons_succ]
          refine x_goP (f_skip_u (dst := some 155) (t := 151) (ts := [154, 151]) rfl (by kernel_rfl) rfl rfl) rfl (by decide) (by decide) ?_
          refine x_goP (r_skip_u (dst := some 156) (t := 151) (ts := [155, 151]) rfl (by kernel_rfl) rfl rfl) rfl (by decide) (by decide) ?_
          refine x_goP (f_skip_u (dst := some 157) (t := 151) (ts := [16, 151]) rfl (by kernel_rfl) rfl rfl) rfl (by decide) (by decide) ?_
          refine x_goP (r_skip_u (dst := some 158) (t := 151) (ts := [156, 157, 151]) rfl (by kernel_rfl) rfl rfl) rfl (by decide) (by decide) ?_
          try dsimp only [HAct.put, List.set_cons_zero, List.set_cons_succ]
          refine x_goP (f_skip_u (dst := some 159) (t := 151) (ts := [158, 151]) rfl (by kernel_rfl) rfl rfl) rfl (by decide) (by decide) ?_
          refine x_goP (r_skip_u (dst := some 160) (t := 151) (ts := [159, 151]) rfl (by kernel_rfl) rfl rfl) rfl (by decide) (by decide) ?_
          refine x_goP (f_skip_u (dst := some 161) (t := 151) (ts := [152, 160, 151]) rfl (by kernel_rfl) rfl rfl) rfl (by decide) (by decide) ?_
          refine x_goP (f_skip_u (dst := some 162) (t := 140) (ts := [151, 161, 140]) rfl (by kernel_rfl) rfl rfl) rfl (by decide) (by decide) ?_
          try dsimp only [HAct.put, List.set_cons_zero, List.set_cons_succ]
          refine x_goP (f_skip (dst := some 163) (t := 138) (ts := [140, 162, 138]) rfl (by kernel_rfl) rfl rfl hc38) rfl (by decide) (by decide) ?_
          refine x_goP (f_op (dst := some 164) (ts := [138, 163]) rfl (by intro _ _ h; cases h) (by kernel_rfl) (fun _ _ ho => ok_pick_tt ho (.tmp rfl) hc38 (.bool _))) rfl (by decide) (by decide) ?_
          refine x_goP (f_op (dst := some 165) (ts := [164]) rfl (by intro _ _ h; cases h) (by kernel_rfl) (fun _ _ ho => ok_move ho (.tmp rfl))) rfl (by decide) (by decide) ?_
          refine x_goP (f_skip (dst := some 166) (t := 165) (ts := [13, 165]) rfl (by kernel_rfl) rfl rfl rfl) rfl (by decide) (by decide) ?_
          try dsimp only [HAct.put, List.set_cons_zero, List.set_cons_succ]
          refine x_goP (f_skip (dst := some 167) (t := 165) (ts := [166, 165]) rfl (by kernel_rfl) rfl rfl rfl) rfl (by decide) (by decide) ?_
          refine x_goP (f_skip (dst := some 168) (t := 165) (ts := [167, 165]) rfl (by kernel_rfl) rfl rfl rfl) rfl (by decide) (by decide) ?_
          refine x_goP (f_skip_u (dst := some 169) (t := 168) (ts := [12, 168]) rfl (by kernel_rfl) rfl rfl) rfl (by decide) (by decide) ?_
          refine x_goP (f_skip_u (dst := some 170) (t := 168) (ts := [169, 168]) rfl (by kernel_rfl) rfl rfl) rfl (by decide) (by decide) ?_
          try dsimp only [HAct.put, List.set_cons_zero, List.set_cons_succ]
          refine x_goP (f_skip_u (dst := some 171) (t := 168) (ts := [170, 168]) rfl (by kernel_rfl) rfl rfl) rfl (by decide) (by decide) ?_
          refine x_goP (f_skip_u (dst := some 172) (t := 171) (ts := [14, 171]) rfl (by kernel_rfl) rfl rfl) rfl (by decide) (by decide) ?_
          refine x_goP (f_skip_u (dst := some 173) (t := 171) (ts := [172, 171]) rfl (by kernel_rfl) rfl rfl) rfl (by decide) (by decide) ?_
          refine x_goP (f_skip_u (dst := some 174) (t := 168) (ts := [171, 173, 168]) rfl (by kernel_rfl) rfl rfl) rfl (by decide) (by decide) ?_
          try dsimp only [HAct.put, List.set_cons_zero, List.set_cons_succ]
          refine x_goP (f_skip (dst := some 175) (t := 165) (ts := [168, 174, 165]) rfl (by kernel_rfl) rfl rfl rfl) rfl (by decide) (by decide) ?_
          refine x_goP (f_op (dst := some 176) (ts := [165, 175]) rfl (by intro _ _ h; cases h) (by kernel_rfl) (fun _ _ ho => ok_pick_tt ho (.tmp rfl) rfl (.bool _))) rfl (by decide) (by decide) ?_
          refine x_rest rfl ?_
          refine hr_region_end ?_
          try dsimp only [HAct.put, List.set_cons_zero, List.set_cons_succ]
          try dsimp only [HAct.put, List.set_cons_zero, List.set_cons_succ]
          exact J5_snd hD hH hrec0 h
        · refine x_goP (f_op_g (dst := some 139) (t := 138) (ts := [13, 138]) rfl (by intro _ _ h; cases h) (by kernel_rfl) rfl rfl (bfalse hc38) (fun _ _ ho => ok_move ho (.tmp rfl))) rfl (by decide) (by decide) ?_
          refine x_goP (f_op_g (dst := some 140) (t := 138) (ts := [139, 138]) rfl (by intro _ _ h; cases h) (by kernel_rfl) rfl rfl (bfalse hc38) (fun _ _ ho => ok_move ho (.tmp rfl))) rfl (by decide) (by decide) ?_
          rcases ifc h with ⟨hc39, h⟩ | ⟨hc39, h⟩
          · refine x_goP (f_op_g (dst := some 141) (t := 140) (ts := [12, 140]) rfl (by intro _ _ h; cases h) (by kernel_rfl) rfl rfl hc39 (fun _ _ ho => ok_move ho (.tmp rfl))) rfl (by decide) (by decide) ?_
            refine x_goP (f_op_g (dst := some 142) (t := 140) (ts := [9, 140]) rfl (by intro _ _ h; cases h) (by kernel_rfl) rfl rfl hc39 (fun _ _ ho => ok_move ho (.tmp rfl))) rfl (by decide) (by decide) ?_
            try dsimp only [HAct.put, List.set_cons_zero, List.set_cons_succ]
            obtain ⟨p40, hp40, h⟩ := bindo h
            refine x_goP (f_op_g (dst := some 143) (t := 140) (ts := [142, 140]) rfl (by intro _ _ h; cases h) (by kernel_rfl) rfl rfl hc39 (fun _ _ ho => ok_nilCheck_p ho (.tmp rfl) hp40)) rfl (by decide) (by decide) ?_
            refine x_goP (f_op_g (dst := some 144) (t := 140) (ts := [143, 140]) rfl (by intro _ _ h; cases h) (by kernel_rfl) rfl rfl hc39 (fun _ _ ho => ok_fieldAddr_s ho fi50_1 (by decide) (.tmp rfl) rfl)) rfl (by decide) (by decide) ?_
            obtain ⟨p41, hp41, h⟩ := bindo h
            refine x_goP (r_op_g (dst := some 145) (t := 140) (ts := [144, 140]) rfl (by intro _ _ h; cases h) (by kernel_rfl) rfl rfl hc39 (fun _ ho => ok_load_s ho sc48 (.tmp rfl) rfl (ldSl_out hp41))) rfl (by decide) (by decide) ?_
            refine x_goP (f_op_g (dst := some 146) (t := 140) (ts := [16, 140]) rfl (by intro _ _ h; cases h) (by kernel_rfl) rfl rfl hc39 (fun _ _ ho => ok_move ho (.tmp rfl))) rfl (by decide) (by decide) ?_
            try dsimp only [HAct.put, List.set_cons_zero, List.set_cons_succ]
            obtain ⟨p42, hp42, h⟩ := bindo h
            refine x_goP (r_op_g (dst := some 147) (t := 140) (ts := [145, 146, 140]) rfl (by intro _ _ h; cases h) (by kernel_rfl) rfl rfl hc39 (fun _ ho => ok_indexAddr (s := p41) ho tu48 sz61 (.tmp rfl) (.tmp rfl) hp42)) rfl (by decide) (by decide) ?_
            refine x_goP (f_op_g (dst := some 148) (t := 140) (ts := [147, 140]) rfl (by intro _ _ h; cases h) (by kernel_rfl) rfl rfl hc39 (fun _ _ ho => ok_fieldAddr_s ho fi61_1 (by decide) (.tmp rfl) rfl)) rfl (by decide) (by decide) ?_
            obtain ⟨p43, hp43, h⟩ := bindo h
            refine x_goP (r_op_g (dst := some 149) (t := 140) (ts := [148, 140]) rfl (by intro _ _ h; cases h) (by kernel_rfl) rfl rfl hc39 (fun _ ho => ok_load_s ho sc3 (.tmp rfl) rfl (ldI_out hp43))) rfl (by decide) (by decide) ?_
            refine x_goP (f_op_g (dst := some 150) (t := 140) (ts := [141, 149, 140]) rfl (by intro _ _ h; cases h) (by kernel_rfl) rfl rfl hc39 (fun _ _ ho => ok_ibin ho (.tmp rfl) (.tmp rfl) rfl)) rfl (by decide) (by decide) ?_
            try dsimp only [HAct.put, List.set_cons_zero, List.set_cons_succ]
            refine x_goP (f_op_g (dst := some 151) (t := 140) (ts := [150, 140]) rfl (by intro _ _ h; cases h) (by kernel_rfl) rfl rfl hc39 (fun _ _ ho => ok_move ho (.tmp rfl))) rfl (by decide) (by decide) ?_
            rcases ifc h with ⟨hc44, h⟩ | ⟨hc44, h⟩
            · refine x_goP (f_skip (dst := some 152) (t := 151) (ts := [14, 151]) rfl (by kernel_rfl) rfl rfl hc44) rfl (by decide) (by decide) ?_
              refine x_goP (f_skip (dst := some 153) (t := 151) (ts := [9, 151]) rfl (by kernel_rfl) rfl rfl hc44) rfl (by decide) (by decide) ?_
              refine x_goP (f_skip (dst := some 154) (t := 151) (ts := [153, 151]) rfl (by kernel_rfl) rfl rfl hc44) rfl (by decide) (by decide) ?_
              try dsimp only [HAct.put, List.set_cons_zero, List.set_cons_succ]
              refine x_goP (f_skip (dst := some 155) (t := 151) (ts := [154, 151]) rfl (by kernel_rfl) rfl rfl hc44) rfl (by decide) (by decide) ?_
              refine x_goP (r_skip (dst := some 156) (t := 151) (ts := [155, 151]) rfl (by kernel_rfl) rfl rfl hc44) rfl (by decide) (by decide) ?_
              refine x_goP (f_skip (dst := some 157) (t := 151) (ts := [16, 151]) rfl (by kernel_rfl) rfl rfl hc44) rfl (by decide) (by decide) ?_
              refine x_goP (r_skip (dst := some 158) (t := 151) (ts := [156, 157, 151]) rfl (by kernel_rfl) rfl rfl hc44) rfl (by decide) (by decide) ?_
              try dsimp only [HAct.put, List.set_cons_zero, List.set_cons_succ]
              refine x_goP (f_skip (dst := some 159) (t := 151) (ts := [158, 151]) rfl (by kernel_rfl) rfl rfl hc44) rfl (by decide) (by decide) ?_
              refine x_goP (r_skip (dst := some 160) (t := 151) (ts := [159, 151]) rfl (by kernel_rfl) rfl rfl hc44) rfl (by decide) (by decide) ?_
              refine x_goP (f_skip (dst := some 161) (t := 151) (ts := [152, 160, 151]) rfl (by kernel_rfl) rfl rfl hc44) rfl (by decide) (by decide) ?_
              refine x_goP (f_op_g (dst := some 162) (t := 140) (ts := [151, 161, 140]) rfl (by intro _ _ h; cases h) (by kernel_rfl) rfl rfl hc39 (fun _ _ ho => ok_pick_tt ho (.tmp rfl) hc44 (.bool _))) rfl (by decide) (by decide) ?_
              try dsimp only [HAct.put, List.set_cons_zero, List.set_cons_succ]
              refine x_goP (f_op_g (dst := some 163) (t := 138) (ts := [140, 162, 138]) rfl (by intro _ _ h; cases h) (by kernel_rfl) rfl rfl (bfalse hc38) (fun _ _ ho => ok_pick_tt ho (.tmp rfl) hc39 (.tmp rfl))) rfl (by decide) (by decide) ?_
              refine x_goP (f_op (dst := some 164) (ts := [138, 163]) rfl (by intro _ _ h; cases h) (by kernel_rfl) (fun _ _ ho => ok_pick_ff ho (.tmp rfl) (bfalse hc38) (.tmp rfl))) rfl (by decide) (by decide) ?_
              refine x_goP (f_op (dst := some 165) (ts := [164]) rfl (by intro _ _ h; cases h) (by kernel_rfl) (fun _ _ ho => ok_move ho (.tmp rfl))) rfl (by decide) (by decide) ?_
              refine x_goP (f_skip (dst := some 166) (t := 165) (ts := [13, 165]) rfl (by kernel_rfl) rfl rfl rfl) rfl (by decide) (by decide) ?_
              try dsimp only [HAct.put, List.set_cons_zero, List.set_cons_succ]
              refine x_goP (f_skip (dst := some 167) (t := 165) (ts := [166, 165]) rfl (by kernel_rfl) rfl rfl rfl) rfl (by decide) (by decide) ?_
              refine x_goP (f_skip (dst := some 168) (t := 165) (ts := [167, 165]) rfl (by kernel_rfl) rfl rfl rfl) rfl (by decide) (by decide) ?_
              refine x_goP (f_skip_u (dst := some 169) (t := 168) (ts := [12, 168]) rfl (by kernel_rfl) rfl rfl) rfl (by decide) (by decide) ?_
              refine x_goP (f_skip_u (dst := some 170) (t := 168) (ts := [169, 168]) rfl (by kernel_rfl) rfl rfl) rfl (by decide) (by decide) ?_
              try dsimp only [HAct.put, List.set_cons_zero, List.set_cons_succ]
              refine x_goP (f_skip_u (dst := some 171) (t := 168) (ts := [170, 168]) rfl (by kernel_rfl) rfl rfl) rfl (by decide) (by decide) ?_
              refine x_goP (f_skip_u (dst := some 172) (t := 171) (ts := [14, 171]) rfl (by kernel_rfl) rfl rfl) rfl (by decide) (by decide) ?_
              refine x_goP (f_skip_u (dst := some 173) (t := 171) (ts := [172, 171]) rfl (by kernel_rfl) rfl rfl) rfl (by decide) (by decide) ?_
              refine x_goP (f_skip_u (dst := some 174) (t := 168) (ts := [171, 173, 168]) rfl (by kernel_rfl) rfl rfl) rfl (by decide) (by decide) ?_
              try dsimp only [HAct.put, List.set_cons_zero, List.set_cons_succ]
              refine x_goP (f_skip (dst := some 175) (t := 165) (ts := [168, 174, 165]) rfl (by kernel_rfl) rfl rfl rfl) rfl (by decide) (by decide) ?_
              refine x_goP (f_op (dst := some 176) (ts := [165, 175]) rfl (by intro _ _ h; cases h) (by kernel_rfl) (fun _ _ ho => ok_pick_tt ho (.tmp rfl) rfl (.bool _))) rfl (by decide) (by decide) ?_
              refine x_rest rfl ?_
              refine hr_region_end ?_
              try dsimp only [HAct.put, List.set_cons_zero, List.set_cons_succ]
              try dsimp only [HAct.put, List.set_cons_zero, List.set_cons_succ]
              exact J5_snd hD hH hrec0 h
            · refine x_goP (f_op_g (dst := some 152) (t := 151) (ts := [14, 151]) rfl (by intro _ _ h; cases h) (by kernel_rfl) rfl rfl (bfalse hc44) (fun _ _ ho => ok_move ho (.tmp rfl))) rfl (by decide) (by decide) ?_
              refine x_goP (f_op_g (dst := some 153) (t := 151) (ts := [9, 151]) rfl (by intro _ _ h; cases h) (by kernel_rfl) rfl rfl (bfalse hc44) (fun _ _ ho => ok_move ho (.tmp rfl))) rfl (by decide) (by decide) ?_
              obtain ⟨p45, hp45, h⟩ := bindo h
              refine x_goP (f_op_g (dst := some 154) (t := 151) (ts := [153, 151]) rfl (by intro _ _ h; cases h) (by kernel_rfl) rfl rfl (bfalse hc44) (fun _ _ ho => ok_nilCheck_p ho (.tmp rfl) hp45)) rfl (by decide) (by decide) ?_
              try dsimp only [HAct.put, List.set_cons_zero, List.set_cons_succ]
              refine x_goP (f_op_g (dst := some 155) (t := 151) (ts := [154, 151]) rfl (by intro _ _ h; cases h) (by kernel_rfl) rfl rfl (bfalse hc44) (fun _ _ ho => ok_fieldAddr_s ho fi50_1 (by decide) (.tmp rfl) rfl)) rfl (by decide) (by decide) ?_
              obtain ⟨p46, hp46, h⟩ := bindo h
              refine x_goP (r_op_g (dst := some 156) (t := 151) (ts := [155, 151]) rfl (by intro _ _ h; cases h) (by kernel_rfl) rfl rfl (bfalse hc44) (fun _ ho => ok_load_s ho sc48 (.tmp rfl) rfl (ldSl_out hp46))) rfl (by decide) (by decide) ?_
              refine x_goP (f_op_g (dst := some 157) (t := 151) (ts := [16, 151]) rfl (by intro _ _ h; cases h) (by kernel_rfl) rfl rfl (bfalse hc44) (fun _ _ ho => ok_move ho (.tmp rfl))) rfl (by decide) (by decide) ?_
              obtain ⟨p47, hp47, h⟩ := bindo h
              refine x_goP (r_op_g (dst := some 158) (t := 151) (ts := [156, 157, 151]) rfl (by intro _ _ h; cases h) (by kernel_rfl) rfl rfl (bfalse hc44) (fun _ ho => ok_indexAddr (s := p46) ho tu48 sz61 (.tmp rfl) (.tmp rfl) hp47)) rfl (by decide) (by decide) ?_
              try dsimp only [HAct.put, List.set_cons_zero, List.set_cons_succ]
              refine x_goP (f_op_g (dst := some 159) (t := 151) (ts := [158, 151]) rfl (by intro _ _ h; cases h) (by kernel_rfl) rfl rfl (bfalse hc44) (fun _ _ ho => ok_fieldAddr_s ho fi61_0 (by decide) (.tmp rfl) rfl)) rfl (by decide) (by decide) ?_
              obtain ⟨p48, hp48, h⟩ := bindo h
              refine x_goP (r_op_g (dst := some 160) (t := 151) (ts := [159, 151]) rfl (by intro _ _ h; cases h) (by kernel_rfl) rfl rfl (bfalse hc44) (fun _ ho => ok_load_s ho sc9 (.tmp rfl) rfl (ldS_out hp48))) rfl (by decide) (by decide) ?_
              refine x_goP (f_op_g (dst := some 161) (t := 151) (ts := [152, 160, 151]) rfl (by intro _ _ h; cases h) (by kernel_rfl) rfl rfl (bfalse hc44) (fun _ _ ho => ok_sbin ho (.tmp rfl) (.tmp rfl) rfl)) rfl (by decide) (by decide) ?_
              refine x_goP (f_op_g (dst := some 162) (t := 140) (ts := [151, 161, 140]) rfl (by intro _ _ h; cases h) (by kernel_rfl) rfl rfl hc39 (fun _ _ ho => ok_pick_ff ho (.tmp rfl) (bfalse hc44) (.tmp rfl))) rfl (by decide) (by decide) ?_
              try dsimp only [HAct.put, List.set_cons_zero, List.set_cons_succ]
              refine x_goP (f_op_g (dst := some 163) (t := 138) (ts := [140, 162, 138]) rfl (by intro _ _ h; cases h) (by kernel_rfl) rfl rfl (bfalse hc38) (fun _ _ ho => ok_pick_tt ho (.tmp rfl) hc39 (.tmp rfl))) rfl (by decide) (by decide) ?_
              refine x_goP (f_op (dst := some 164) (ts := [138, 163]) rfl (by intro _ _ h; cases h) (by kernel_rfl) (fun _ _ ho => ok_pick_ff ho (.tmp rfl) (bfalse hc38) (.tmp rfl))) rfl (by decide) (by decide) ?_
              refine x_goP (f_op (dst := some 165) (ts := [164]) rfl (by intro _ _ h; cases h) (by kernel_rfl) (fun _ _ ho => ok_move ho (.tmp rfl))) rfl (by decide) (by decide) ?_
              rcases ifc h with ⟨hc49, h⟩ | ⟨hc49, h⟩
              · refine x_goP (f_skip (dst := some 166) (t := 165) (ts := [13, 165]) rfl (by kernel_rfl) rfl rfl hc49) rfl (by decide) (by decide) ?_
                try dsimp only [HAct.put, List.set_cons_zero, List.set_cons_succ]
                refine x_goP (f_skip (dst := some 167) (t := 165) (ts := [166, 165]) rfl (by kernel_rfl) rfl rfl hc49) rfl (by decide) (by decide) ?_
                refine x_goP (f_skip (dst := some 168) (t := 165) (ts := [167, 165]) rfl (by kernel_rfl) rfl rfl hc49) rfl (by decide) (by decide) ?_
                refine x_goP (f_skip_u (dst := some 169) (t := 168) (ts := [12, 168]) rfl (by kernel_rfl) rfl rfl) rfl (by decide) (by decide) ?_
                refine x_goP (f_skip_u (dst := some 170) (t := 168) (ts := [169, 168]) rfl (by kernel_rfl) rfl rfl) rfl (by decide) (by decide) ?_
                try dsimp only [HAct.put, List.set_cons_zero, List.set_cons_succ]
                refine x_goP (f_skip_u (dst := some 171) (t := 168) (ts := [170, 168]) rfl (by kernel_rfl) rfl rfl) rfl (by decide) (by decide) ?_
                refine x_goP (f_skip_u (dst := some 172) (t := 171) (ts := [14, 171]) rfl (by kernel_rfl) rfl rfl) rfl (by decide) (by decide) ?_
                refine x_goP (f_skip_u (dst := some 173) (t := 171) (ts := [172, 171]) rfl (by kernel_rfl) rfl rfl) rfl (by decide) (by decide) ?_
                refine x_goP (f_skip_u (dst := some 174) (t := 168) (ts := [171, 173, 168]) rfl (by kernel_rfl) rfl rfl) rfl (by decide) (by decide) ?_
                try dsimp only [HAct.put, List.set_cons_zero, List.set_cons_succ]
                refine x_goP (f_skip (dst := some 175) (t := 165) (ts := [168, 174, 165]) rfl (by kernel_rfl) rfl rfl hc49) rfl (by decide) (by decide) ?_
                refine x_goP (f_op (dst := some 176) (ts := [165, 175]) rfl (by intro _ _ h; cases h) (by kernel_rfl) (fun _ _ ho => ok_pick_tt ho (.tmp rfl) hc49 (.bool _))) rfl (by decide) (by decide) ?_
                refine x_rest rfl ?_
                refine hr_region_end ?_
                try dsimp only [HAct.put, List.set_cons_zero, List.set_cons_succ]
                try dsimp only [HAct.put, List.set_cons_zero, List.set_cons_succ]
                exact J5_snd hD hH hrec0 h
              · refine x_goP (f_op_g (dst := some 166) (t := 165) (ts := [13, 165]) rfl (by intro _ _ h; cases h) (by kernel_rfl) rfl rfl (bfalse hc49) (fun _ _ ho => ok_move ho (.tmp rfl))) rfl (by decide) (by decide) ?_
                try dsimp only [HAct.put, List.set_cons_zero, List.set_cons_succ]
                refine x_goP (f_op_g (dst := some 167) (t := 165) (ts := [166, 165]) rfl (by intro _ _ h; cases h) (by kernel_rfl) rfl rfl (bfalse hc49) (fun _ _ ho => ok_not ho (.tmp rfl))) rfl (by decide) (by decide) ?_
                refine x_goP (f_op_g (dst := some 168) (t := 165) (ts := [167, 165]) rfl (by intro _ _ h; cases h) (by kernel_rfl) rfl rfl (bfalse hc49) (fun _ _ ho => ok_move ho (.tmp rfl))) rfl (by decide) (by decide) ?_
                rcases ifc h with ⟨hc50, h⟩ | ⟨hc50, h⟩
                · refine x_goP (f_op_g (dst := some 169) (t := 168) (ts := [12, 168]) rfl (by intro _ _ h; cases h) (by kernel_rfl) rfl rfl hc50 (fun _ _ ho => ok_move ho (.tmp rfl))) rfl (by decide) (by decide) ?_
                  refine x_goP (f_op_g (dst := some 170) (t := 168) (ts := [169, 168]) rfl (by intro _ _ h; cases h) (by kernel_rfl) rfl rfl hc50 (fun _ _ ho => ok_ibin ho (.tmp rfl) (.int _ _) rfl)) rfl (by decide) (by decide) ?_
                  try dsimp only [HAct.put, List.set_cons_zero, List.set_cons_succ]
                  refine x_goP (f_op_g (dst := some 171) (t := 168) (ts := [170, 168]) rfl (by intro _ _ h; cases h) (by kernel_rfl) rfl rfl hc50 (fun _ _ ho => ok_move ho (.tmp rfl))) rfl (by decide) (by decide) ?_
                  rcases ifc h with ⟨hc51, h⟩ | ⟨hc51, h⟩
                  · refine x_goP (f_skip (dst := some 172) (t := 171) (ts := [14, 171]) rfl (by kernel_rfl) rfl rfl hc51) rfl (by decide) (by decide) ?_
                    refine x_goP (f_skip (dst := some 173) (t := 171) (ts := [172, 171]) rfl (by kernel_rfl) rfl rfl hc51) rfl (by decide) (by decide) ?_
                    refine x_goP (f_op_g (dst := some 174) (t := 168) (ts := [171, 173, 168]) rfl (by intro _ _ h; cases h) (by kernel_rfl) rfl rfl hc50 (fun _ _ ho => ok_pick_tt ho (.tmp rfl) hc51 (.bool _))) rfl (by decide) (by decide) ?_
                    try dsimp only [HAct.put, List.set_cons_zero, List.set_cons_succ]
                    refine x_goP (f_op_g (dst := some 175) (t := 165) (ts := [168, 174, 165]) rfl (by intro _ _ h; cases h) (by kernel_rfl) rfl rfl (bfalse hc49) (fun _ _ ho => ok_pick_tt ho (.tmp rfl) hc50 (.tmp rfl))) rfl (by decide) (by decide) ?_
                    refine x_goP (f_op (dst := some 176) (ts := [165, 175]) rfl (by intro _ _ h; cases h) (by kernel_rfl) (fun _ _ ho => ok_pick_ff ho (.tmp rfl) (bfalse hc49) (.tmp rfl))) rfl (by decide) (by decide) ?_
                    refine x_rest rfl ?_
                    refine hr_region_end ?_
                    try dsimp only [HAct.put, List.set_cons_zero, List.set_cons_succ]
                    try dsimp only [HAct.put, List.set_cons_zero, List.set_cons_succ]
                    exact J5_snd hD hH hrec0 h
                  · refine x_goP (f_op_g (dst := some 172) (t := 171) (ts := [14, 171]) rfl (by intro _ _ h; cases h) (by kernel_rfl) rfl rfl (bfalse hc51) (fun _ _ ho => ok_move ho (.tmp rfl))) rfl (by decide) (by decide) ?_
                    refine x_goP (f_op_g (dst := some 173) (t := 171) (ts := [172, 171]) rfl (by intro _ _ h; cases h) (by kernel_rfl) rfl rfl (bfalse hc51) (fun _ _ ho => ok_sbin ho (.tmp rfl) (.str _) rfl)) rfl (by decide) (by decide) ?_
                    refine x_goP (f_op_g (dst := some 174) (t := 168) (ts := [171, 173, 168]) rfl (by intro _ _ h; cases h) (by kernel_rfl) rfl rfl hc50 (fun _ _ ho => ok_pick_ff ho (.tmp rfl) (bfalse hc51) (.tmp rfl))) rfl (by decide) (by decide) ?_
                    try dsimp only [HAct.put, List.set_cons_zero, List.set_cons_succ]
                    refine x_goP (f_op_g (dst := some 175) (t := 165) (ts := [168, 174, 165]) rfl (by intro _ _ h; cases h) (by kernel_rfl) rfl rfl (bfalse hc49) (fun _ _ ho => ok_pick_tt ho (.tmp rfl) hc50 (.tmp rfl))) rfl (by decide) (by decide) ?_
                    refine x_goP (f_op (dst := some 176) (ts := [165, 175]) rfl (by intro _ _ h; cases h) (by kernel_rfl) (fun _ _ ho => ok_pick_ff ho (.tmp rfl) (bfalse hc49) (.tmp rfl))) rfl (by decide) (by decide) ?_
                    refine x_rest rfl ?_
                    refine hr_region_end ?_
                    try dsimp only [HAct.put, List.set_cons_zero, List.set_cons_succ]
                    try dsimp only [HAct.put, List.set_cons_zero, List.set_cons_succ]
                    exact J5_snd hD hH hrec0 h
                · refine x_goP (f_skip (dst := some 169) (t := 168) (ts := [12, 168]) rfl (by kernel_rfl) rfl rfl (bfalse hc50)) rfl (by decide) (by decide) ?_
                  refine x_goP (f_skip (dst := some 170) (t := 168) (ts := [169, 168]) rfl (by kernel_rfl) rfl rfl (bfalse hc50)) rfl (by decide) (by decide) ?_
                  try dsimp only [HAct.put, List.set_cons_zero, List.set_cons_succ]
                  refine x_goP (f_skip (dst := some 171) (t := 168) (ts := [170, 168]) rfl (by kernel_rfl) rfl rfl (bfalse hc50)) rfl (by decide) (by decide) ?_
                  refine x_goP (f_skip_u (dst := some 172) (t := 171) (ts := [14, 171]) rfl (by kernel_rfl) rfl rfl) rfl (by decide) (by decide) ?_
                  refine x_goP (f_skip_u (dst := some 173) (t := 171) (ts := [172, 171]) rfl (by kernel_rfl) rfl rfl) rfl (by decide) (by decide) ?_
                  refine x_goP (f_skip (dst := some 174) (t := 168) (ts := [171, 173, 168]) rfl (by kernel_rfl) rfl rfl (bfalse hc50)) rfl (by decide) (by decide) ?_
                  try dsimp only [HAct.put, List.set_cons_zero, List.set_cons_succ]
                  refine x_goP (f_op_g (dst := some 175) (t := 165) (ts := [168, 174, 165]) rfl (by intro _ _ h; cases h) (by kernel_rfl) rfl rfl (bfalse hc49) (fun _ _ ho => ok_pick_ff ho (.tmp rfl) (bfalse hc50) (.bool _))) rfl (by decide) (by decide) ?_
                  refine x_goP (f_op (dst := some 176) (ts := [165, 175]) rfl (by intro _ _ h; cases h) (by kernel_rfl) (fun _ _ ho => ok_pick_ff ho (.tmp rfl) (bfalse hc49) (.tmp rfl))) rfl (by decide) (by decide) ?_
                  refine x_rest rfl ?_
                  refine hr_region_end ?_
                  try dsimp only [HAct.put, List.set_cons_zero, List.set_cons_succ]
                  try dsimp only [HAct.put, List.set_cons_zero, List.set_cons_succ]
                  exact J5_snd hD hH hrec0 h
          · refine x_goP (f_skip (dst := some 141) (t := 140) (ts := [12, 140]) rfl (by kernel_rfl) rfl rfl (bfalse hc39)) rfl (by decide) (by decide) ?_
            refine x_goP (f_skip (dst := some 142) (t := 140) (ts := [9, 140]) rfl (by kernel_rfl) rfl rfl (bfalse hc39)) rfl (by decide) (by decide) ?_
            try dsimp only [HAct.put, List.set_cons_zero, List.set_cons_succ]
            refine x_goP (f_skip (dst := some 143) (t := 140) (ts := [142, 140]) rfl (by kernel_rfl) rfl rfl (bfalse hc39)) rfl (by decide) (by decide) ?_
            refine x_goP (f_skip (dst := some 144) (t := 140) (ts := [143, 140]) rfl (by kernel_rfl) rfl rfl (bfalse hc39)) rfl (by decide) (by decide) ?_
            refine x_goP (r_skip (dst := some 145) (t := 140) (ts := [144, 140]) rfl (by kernel_rfl) rfl rfl (bfalse hc39)) rfl (by decide) (by decide) ?_
            refine x_goP (f_skip (dst := some 146) (t := 140) (ts := [16, 140]) rfl (by kernel_rfl) rfl rfl (bfalse hc39)) rfl (by decide) (by decide) ?_
            try dsimp only [HAct.put, List.set_cons_zero, List.set_cons_succ]
            refine x_goP (r_skip (dst := some 147) (t := 140) (ts := [145, 146, 140]) rfl (by kernel_rfl) rfl rfl (bfalse hc39)) rfl (by decide) (by decide) ?_
            refine x_goP (f_skip (dst := some 148) (t := 140) (ts := [147, 140]) rfl (by kernel_rfl) rfl rfl (bfalse hc39)) rfl (by decide) (by decide) ?_
            refine x_goP (r_skip (dst := some 149) (t := 140) (ts := [148, 140]) rfl (by kernel_rfl) rfl rfl (bfalse hc39)) rfl (by decide) (by decide) ?_
            refine x_goP (f_skip (dst := some 150) (t := 140) (ts := [141, 149, 140]) rfl (by kernel_rfl) rfl rfl (bfalse hc39)) rfl (by decide) (by decide) ?_
            try dsimp only [HAct.put, List.set_cons_zero, List.set_cons_succ]
            refine x_goP (f_skip (dst := some 151) (t := 140) (ts := [150, 140]) rfl (by kernel_rfl) rfl rfl (bfalse hc39)) rfl (by decide) (by decide) ?_
            refine x_goP (f_skip_u (dst := some 152) (t := 151) (ts := [14, 151]) rfl (by kernel_rfl) rfl rfl) rfl (by decide) (by decide) ?_
            refine x_goP (f_skip_u (dst := some 153) (t := 151) (ts := [9, 151]) rfl (by kernel_rfl) rfl rfl) rfl (by decide) (by decide) ?_
            refine x_goP (f_skip_u (dst := some 154) (t := 151) (ts := [153, 151]) rfl (by kernel_rfl) rfl rfl) rfl (by decide) (by decide) ?_
            try dsimp only [HAct.put, List.set_cons_zero, List.set_cons_succ]
            refine x_goP (f_skip_u (dst := some 155) (t := 151) (ts := [154, 151]) rfl (by kernel_rfl) rfl rfl) rfl (by decide) (by decide) ?_
            refine x_goP (r_skip_u (dst := some 156) (t := 151) (ts := [155, 151]) rfl (by kernel_rfl) rfl rfl) rfl (by decide) (by decide) ?_
            refine x_goP (f_skip_u (dst := some 157) (t := 151) (ts := [16, 151]) rfl (by kernel_rfl) rfl rfl) rfl (by decide) (by decide) ?_
            refine x_goP (r_skip_u (dst := some 158) (t := 151) (ts := [156, 157, 151]) rfl (by kernel_rfl) rfl rfl) rfl (by decide) (by decide) ?_
            try dsimp only [HAct.put, List.set_cons_zero, List.set_cons_succ]
            refine x_goP (f_skip_u (dst := some 159) (t := 151) (ts := [158, 151]) rfl (by kernel_rfl) rfl rfl) rfl (by decide) (by decide) ?_
            refine x_goP (r_skip_u (dst := some 160) (t := 151) (ts := [159, 151]) rfl (by kernel_rfl) rfl rfl) rfl (by decide) (by decide) ?_
            refine x_goP (f_skip_u (dst := some 161) (t := 151) (ts := [152, 160, 151]) rfl (by kernel_rfl) rfl rfl) rfl (by decide) (by decide) ?_
            refine x_goP (f_skip (dst := some 162) (t := 140) (ts := [151, 161, 140]) rfl (by kernel_rfl) rfl rfl (bfalse hc39)) rfl (by decide) (by decide) ?_
            try dsimp only [HAct.put, List.set_cons_zero, List.set_cons_succ]
            refine x_goP (f_op_g (dst := some 163) (t := 138) (ts := [140, 162, 138]) rfl (by intro _ _ h; cases h) (by kernel_rfl) rfl rfl (bfalse hc38) (fun _ _ ho => ok_pick_ff ho (.tmp rfl) (bfalse hc39) (.bool _))) rfl (by decide) (by decide) ?_
            refine x_goP (f_op (dst := some 164) (ts := [138, 163]) rfl (by intro _ _ h; cases h) (by kernel_rfl) (fun _ _ ho => ok_pick_ff ho (.tmp rfl) (bfalse hc38) (.tmp rfl))) rfl (by decide) (by decide) ?_
            refine x_goP (f_op (dst := some 165) (ts := [164]) rfl (by intro _ _ h; cases h) (by kernel_rfl) (fun _ _ ho => ok_move ho (.tmp rfl))) rfl (by decide) (by decide) ?_
            refine x_goP (f_op_g (dst := some 166) (t := 165) (ts := [13, 165]) rfl (by intro _ _ h; cases h) (by kernel_rfl) rfl rfl rfl (fun _ _ ho => ok_move ho (.tmp rfl))) rfl (by decide) (by decide) ?_
            try dsimp only [HAct.put, List.set_cons_zero, List.set_cons_succ]
            refine x_goP (f_op_g (dst := some 167) (t := 165) (ts := [166, 165]) rfl (by intro _ _ h; cases h) (by kernel_rfl) rfl rfl rfl (fun _ _ ho => ok_not ho (.tmp rfl))) rfl (by decide) (by decide) ?_
            refine x_goP (f_op_g (dst := some 168) (t := 165) (ts := [167, 165]) rfl (by intro _ _ h; cases h) (by kernel_rfl) rfl rfl rfl (fun _ _ ho => ok_move ho (.tmp rfl))) rfl (by decide) (by decide) ?_
            rcases ifc h with ⟨hc52, h⟩ | ⟨hc52, h⟩
            · refine x_goP (f_op_g (dst := some 169) (t := 168) (ts := [12, 168]) rfl (by intro _ _ h; cases h) (by kernel_rfl) rfl rfl hc52 (fun _ _ ho => ok_move ho (.tmp rfl))) rfl (by decide) (by decide) ?_
              refine x_goP (f_op_g (dst := some 170) (t := 168) (ts := [169, 168]) rfl (by intro _ _ h; cases h) (by kernel_rfl) rfl rfl hc52 (fun _ _ ho => ok_ibin ho (.tmp rfl) (.int _ _) rfl)) rfl (by decide) (by decide) ?_
              try dsimp only [HAct.put, List.set_cons_zero, List.set_cons_succ]
              refine x_goP (f_op_g (dst := some 171) (t := 168) (ts := [170, 168]) rfl (by intro _ _ h; cases h) (by kernel_rfl) rfl rfl hc52 (fun _ _ ho => ok_move ho (.tmp rfl))) rfl (by decide) (by decide) ?_
              rcases ifc h with ⟨hc53, h⟩ | ⟨hc53, h⟩
              · refine x_goP (f_skip (dst := some 172) (t := 171) (ts := [14, 171]) rfl (by kernel_rfl) rfl rfl hc53) rfl (by decide) (by decide) ?_
                refine x_goP (f_skip (dst := some 173) (t := 171) (ts := [172, 171]) rfl (by kernel_rfl) rfl rfl hc53) rfl (by decide) (by decide) ?_
                refine x_goP (f_op_g (dst := some 174) (t := 168) (ts := [171, 173, 168]) rfl (by intro _ _ h; cases h) (by kernel_rfl) rfl rfl hc52 (fun _ _ ho => ok_pick_tt ho (.tmp rfl) hc53 (.bool _))) rfl (by decide) (by decide) ?_
                try dsimp only [HAct.put, List.set_cons_zero, List.set_cons_succ]
                refine x_goP (f_op_g (dst := some 175) (t := 165) (ts := [168, 174, 165]) rfl (by intro _ _ h; cases h) (by kernel_rfl) rfl rfl rfl (fun _ _ ho => ok_pick_tt ho (.tmp rfl) hc52 (.tmp rfl))) rfl (by decide) (by decide) ?_
                refine x_goP (f_op (dst := some 176) (ts := [165, 175]) rfl (by intro _ _ h; cases h) (by kernel_rfl) (fun _ _ ho => ok_pick_ff ho (.tmp rfl) rfl (.tmp rfl))) rfl (by decide) (by decide) ?_
                refine x_rest rfl ?_
                refine hr_region_end ?_
                try dsimp only [HAct.put, List.set_cons_zero, List.set_cons_succ]
                try dsimp only [HAct.put, List.set_cons_zero, List.set_cons_succ]
                exact J5_snd hD hH hrec0 h
              · refine x_goP (f_op_g (dst := some 172) (t := 171) (ts := [14, 171]) rfl (by intro _ _ h; cases h) (by kernel_rfl) rfl rfl (bfalse hc53) (fun _ _ ho => ok_move ho (.tmp rfl))) rfl (by decide) (by decide) ?_
                refine x_goP (f_op_g (dst := some 173) (t := 171) (ts := [172, 171]) rfl (by intro _ _ h; cases h) (by kernel_rfl) rfl rfl (bfalse hc53) (fun _ _ ho => ok_sbin ho (.tmp rfl) (.str _) rfl)) rfl (by decide) (by decide) ?_
                refine x_goP (f_op_g (dst := some 174) (t := 168) (ts := [171, 173, 168]) rfl (by intro _ _ h; cases h) (by kernel_rfl) rfl rfl hc52 (fun _ _ ho => ok_pick_ff ho (.tmp rfl) (bfalse hc53) (.tmp rfl))) rfl (by decide) (by decide) ?_
                try dsimp only [HAct.put, List.set_cons_zero, List.set_cons_succ]
                refine x_goP (f_op_g (dst := some 175) (t := 165) (ts := [168, 174, 165]) rfl (by intro _ _ h; cases h) (by kernel_rfl) rfl rfl rfl (fun _ _ ho => ok_pick_tt ho (.tmp rfl) hc52 (.tmp rfl))) rfl (by decide) (by decide) ?_
                refine x_goP (f_op (dst := some 176) (ts := [165, 175]) rfl (by intro _ _ h; cases h) (by kernel_rfl) (fun _ _ ho => ok_pick_ff ho (.tmp rfl) rfl (.tmp rfl))) rfl (by decide) (by decide) ?_
                refine x_rest rfl ?_
                refine hr_region_end ?_
                try dsimp only [HAct.put, List.set_cons_zero, List.set_cons_succ]
                try dsimp only [HAct.put, List.set_cons_zero, List.set_cons_succ]
                exact J5_snd hD hH hrec0 h
            · refine x_goP (f_skip (dst := some 169) (t := 168) (ts := [12, 168]) rfl (by kernel_rfl) rfl rfl (bfalse hc52)) rfl (by decide) (by decide) ?_
              refine x_goP (f_skip (dst := some 170) (t := 168) (ts := [169, 168]) rfl (by kernel_rfl) rfl rfl (bfalse hc52)) rfl (by decide) (by decide) ?_
              try dsimp only [HAct.put, List.set_cons_zero, List.set_cons_succ]
              refine x_goP (f_skip (dst := some 171) (t := 168) (ts := [170, 168]) rfl (by kernel_rfl) rfl rfl (bfalse hc52)) rfl (by decide) (by decide) ?_
              refine x_goP (f_skip_u (dst := some 172) (t := 171) (ts := [14, 171]) rfl (by kernel_rfl) rfl rfl) rfl (by decide) (by decide) ?_
              refine x_goP (f_skip_u (dst := some 173) (t := 171) (ts := [172, 171]) rfl (by kernel_rfl) rfl rfl) rfl (by decide) (by decide) ?_
              refine x_goP (f_skip (dst := some 174) (t := 168) (ts := [171, 173, 168]) rfl (by kernel_rfl) rfl rfl (bfalse hc52)) rfl (by decide) (by decide) ?_
              try dsimp only [HAct.put, List.set_cons_zero, List.set_cons_succ]
              refine x_goP (f_op_g (dst := some 175) (t := 165) (ts := [168, 174, 165]) rfl (by intro _ _ h; cases h) (by kernel_rfl) rfl rfl rfl (fun _ _ ho => ok_pick_ff ho (.tmp rfl) (bfalse hc52) (.bool _))) rfl (by decide) (by decide) ?_
              refine x_goP (f_op (dst := some 176) (ts := [165, 175]) rfl (by intro _ _ h; cases h) (by kernel_rfl) (fun _ _ ho => ok_pick_ff ho (.tmp rfl) rfl (.tmp rfl))) rfl (by decide) (by decide) ?_
              refine x_rest rfl ?_
              refine hr_region_end ?_
              try dsimp only [HAct.put, List.set_cons_zero, List.set_cons_succ]
              try dsimp only [HAct.put, List.set_cons_zero, List.set_cons_succ]
              exact J5_snd hD hH hrec0 h
def J6 (D : Dp) (H : Hd) (k : Nat) (y188 : Bool) (S : HS) : Option ((Bool) × HS) :=
  some (y188, S)
theorem J6_snd {D : Dp} {H : Hd} {k : Nat} (hD : DSound Try.prog base W0 D) (hH : HSound Try.prog base W0 β0 H)  {y188 : Bool} {S : HS} {p : (Bool) × HS} {g0 g1 g2 g3 g4 g5 g6 g7 g8 g9 g10 g11 g12 g13 g14 g15 g16 g17 g18 g19 g20 g21 g22 g23 g24 g25 g26 g27 g28 g29 g30 g31 g32 g33 g34 g35 g36 g37 g38 g39 g40 g41 g42 g43 g44 g45 g46 g47 g48 g49 g50 g51 g52 g53 g54 g55 g56 g57 g58 g59 g60 g61 g62 g63 g64 g65 g66 g67 g68 g69 g70 g71 g72 g73 g74 g75 g76 g77 g78 g79 g80 g81 g82 g83 g84 g85 g86 g87 g88 g89 g90 g91 g92 g93 g94 g95 g96 g97 g98 g99 g100 g101 g102 g103 g104 g105 g106 g107 g108 g109 g110 g111 g112 g113 g114 g115 g116 g117 g118 g119 g120 g121 g122 g123 g124 g125 g126 g127 g128 g129 g130 g131 g132 g133 g134 g135 g136 g137 g138 g139 g140 g141 g142 g143 g144 g145 g146 g147 g148 g149 g150 g151 g152 g153 g154 g155 g156 g157 g158 g159 g160 g161 g162 g163 g164 g165 g166 g167 g168 g169 g170 g171 g172 g173 g174 g175 g176 g177 g178 g179 g180 g181 g182 g183 g184 g185 g186 g187 : HV} (h : J6 D H k y188 S = some p) : HRun Try.prog base W0 β0 5 none [.inRegion r74 [12], .code c75] ⟨[g0, g1, g2, g3, g4, g5, g6, g7, g8, g9, g10, g11, g12, g13, g14, g15, g16, g17, g18, g19, g20, g21, g22, g23, g24, g25, g26, g27, g28, g29, g30, g31, g32, g33, g34, g35, g36, g37, g38, g39, g40, g41, g42, g43, g44, g45, g46, g47, g48, g49, g50, g51, g52, g53, g54, g55, g56, g57, g58, g59, g60, g61, g62, g63, g64, g65, g66, g67, g68, g69, g70, g71, g72, g73, g74, g75, g76, g77, g78, g79, g80, g81, g82, g83, g84, g85, g86, g87, g88, g89, g90, g91, g92, g93, g94, g95, g96, g97, g98, g99, g100, g101, g102, g103, g104, g105, g106, g107, g108, g109, g110, g111, g112, g113, g114, g115, g116, g117, g118, g119, g120, g121, g122, g123, g124, g125, g126, g127, g128, g129, g130, g131, g132, g133, g134, g135, g136, g137, g138, g139, g140, g141, g142, g143, g144, g145, g146, g147, g148, g149, g150, g151, g152, g153, g154, g155, g156, g157, g158, g159, g160, g161, g162, g163, g164, g165, g166, g167, g168, g169, g170, g171, g172, g173, g174, g175, g176, g177, g178, g179, g180, g181, g182, g183, g184, g185, g186, g187, (.bool y188)], []⟩ S (fun v S1 => v = (.bool p.1) ∧ S1 = p.2) := by
  unfold J6 at h
  refine q_op (dst := some 6) rfl (fun _ ho => ok_assign ho (.tmp rfl)) ?_
  refine hr_region_end ?_
  try dsimp only [HAct.put, List.set_cons_zero, List.set_cons_succ]
  cases h
  exact q_ret e75 at_.at_ rfl (res1 rfl rfl) ⟨rfl, rfl⟩
def L3 (D : Dp) (H : Hd) (k : Nat) : Nat → Sl → (List UInt8) → (Option HA) → (Option HA) → Int → HS → Option ((Bool) × HS)
  | 0, _, _, _, _, _, _ => none
  | n + 1, y1, y2, y7, y9, y10, S =>
    (if y10 < (Sl.len y1 : Int) then
    (Option.bind (HS.idx S y1 y10 3) fun p13 =>
    (Option.bind (HS.ldI S .i64 (HA.fld p13 0)) fun p14 =>
    (if p14 = 1 then
    (Option.bind (HS.idx S y1 y10 3) fun p16 =>
    (Option.bind (HS.ldS S (HA.fld p16 1)) fun p17 =>
    (Option.bind (book_Book_int_Delete.f D H k y7 p17 S) fun p18 =>
    (Option.bind (HS.idx p18.2 y1 y10 3) fun p19 =>
    (Option.bind (HS.idx S y1 y10 3) fun p20 =>
    (if p20 = p19 then
    (Option.bind (HS.ldS p18.2 (HA.fld p19 1)) fun p22 =>
    (Option.bind (HS.ldS S (HA.fld p19 1)) fun p23 =>
    (if p23 = p22 then
    (Option.bind (rollcallref02_Book_Delete.f k y9 p22 p18.2) fun p25 =>
    J4 D H k (L3 D H k n) y1 y2 y7 y9 y10 (p18.1 == p25.1) p25.2) else none))) else none)))))) else
    (Option.bind (HS.idx S y1 y10 3) fun p54 =>
    (Option.bind (HS.ldS S (HA.fld p54 1)) fun p55 =>
    (Option.bind (HS.idx S y1 y10 3) fun p56 =>
    (Option.bind (HS.ldI S .i64 (HA.fld p56 2)) fun p57 =>
    (Option.bind (book_Book_int_Put.f D H k y7 p55 p57 S) fun p58 =>
    (Option.bind (HS.idx p58.2 y1 y10 3) fun p59 =>
    (Option.bind (HS.idx S y1 y10 3) fun p60 =>
    (if p60 = p59 then
    (Option.bind (HS.ldS p58.2 (HA.fld p59 1)) fun p62 =>
    (Option.bind (HS.ldS S (HA.fld p59 1)) fun p63 =>
    (if p63 = p62 then
    (Option.bind (HS.idx p58.2 y1 y10 3) fun p65 =>
    (Option.bind (HS.idx S y1 y10 3) fun p66 =>
    (if p66 = p65 then
    (Option.bind (HS.ldI p58.2 .i64 (HA.fld p65 2)) fun p68 =>
    (Option.bind (HS.ldI S .i64 (HA.fld p65 2)) fun p69 =>
    (if p69 = p68 then
    (Option.bind (rollcallref02_Book_Put.f k y9 p62 p68 p58.2) fun p71 =>
    J4 D H k (L3 D H k n) y1 y2 y7 y9 y10 (decide (p58.1 = p71.1)) p71.2) else none))) else none))) else none))) else none))))))))))) else
    (Option.bind (rollcallref02_Book_From.f k y9 ([] : List UInt8) true S) fun p72 =>
    (Option.bind (rollcalllaw02_same.f D H k y7 p72.1 ([] : List UInt8) true p72.2) fun p73 =>
    (if p73.1 = true then
    (Option.bind (rollcallref02_Book_From.f k y9 y2 false p73.2) fun p75 =>
    (Option.bind (rollcalllaw02_same.f D H k y7 p75.1 y2 false p75.2) fun p76 =>
    J6 D H k p76.1 p76.2)) else
    J6 D H k false p73.2))))
theorem L3_snd {D : Dp} {H : Hd} {k : Nat} (hD : DSound Try.prog base W0 D) (hH : HSound Try.prog base W0 β0 H)  : ∀ {n : Nat} ⦃y1 : Sl⦄ ⦃y2 : (List UInt8)⦄ ⦃y7 : (Option HA)⦄ ⦃y9 : (Option HA)⦄ ⦃y10 : Int⦄ ⦃S : HS⦄ ⦃p : (Bool) × HS⦄ ⦃g0 g3 g4 g5 g6 g8 g11 g12 g13 g14 g15 g16 g17 g18 g19 g20 g21 g22 g23 g24 g25 g26 g27 g28 g29 g30 g31 g32 g33 g34 g35 g36 g37 g38 g39 g40 g41 g42 g43 g44 g45 g46 g47 g48 g49 g50 g51 g52 g53 g54 g55 g56 g57 g58 g59 g60 g61 g62 g63 g64 g65 g66 g67 g68 g69 g70 g71 g72 g73 g74 g75 g76 g77 g78 g79 g80 g81 g82 g83 g84 g85 g86 g87 g88 g89 g90 g91 g92 g93 g94 g95 g96 g97 g98 g99 g100 g101 g102 g103 g104 g105 g106 g107 g108 g109 g110 g111 g112 g113 g114 g115 g116 g117 g118 g119 g120 g121 g122 g123 g124 g125 g126 g127 g128 g129 g130 g131 g132 g133 g134 g135 g136 g137 g138 g139 g140 g141 g142 g143 g144 g145 g146 g147 g148 g149 g150 g151 g152 g153 g154 g155 g156 g157 g158 g159 g160 g161 g162 g163 g164 g165 g166 g167 g168 g169 g170 g171 g172 g173 g174 g175 g176 g177 g178 g179 g180 g181 g182 g183 g184 g185 g186 g187 g188 : HV⦄, L3 D H k n y1 y2 y7 y9 y10 S = some p → HRun Try.prog base W0 β0 5 none [.inLoop c43, .inBlock 0, .code c73] ⟨[g0, (Sl.hv y1), (.str y2), g3, g4, g5, g6, (.ptr y7), g8, (.ptr y9), (.int .i64 y10), g11, g12, g13, g14, g15, g16, g17, g18, g19, g20, g21, g22, g23, g24, g25, g26, g27, g28, g29, g30, g31, g32, g33, g34, g35, g36, g37, g38, g39, g40, g41, g42, g43, g44, g45, g46, g47, g48, g49, g50, g51, g52, g53, g54, g55, g56, g57, g58, g59, g60, g61, g62, g63, g64, g65, g66, g67, g68, g69, g70, g71, g72, g73, g74, g75, g76, g77, g78, g79, g80, g81, g82, g83, g84, g85, g86, g87, g88, g89, g90, g91, g92, g93, g94, g95, g96, g97, g98, g99, g100, g101, g102, g103, g104, g105, g106, g107, g108, g109, g110, g111, g112, g113, g114, g115, g116, g117, g118, g119, g120, g121, g122, g123, g124, g125, g126, g127, g128, g129, g130, g131, g132, g133, g134, g135, g136, g137, g138, g139, g140, g141, g142, g143, g144, g145, g146, g147, g148, g149, g150, g151, g152, g153, g154, g155, g156, g157, g158, g159, g160, g161, g162, g163, g164, g165, g166, g167, g168, g169, g170, g171, g172, g173, g174, g175, g176, g177, g178, g179, g180, g181, g182, g183, g184, g185, g186, g187, g188], []⟩ S (fun v S1 => v = (.bool p.1) ∧ S1 = p.2) := by
  intro n
  induction n with
  | zero => intro _ _ _ _ _ _ _ _ _ _ _ _ _ _ _ _ _ _ _ _ _ _ _ _ _ _ _ _ _ _ _ _ _ _ _ _ _ _ _ _ _ _ _ _ _ _ _ _ _ _ _ _ _ _ _ _ _ _ _ _ _ _ _ _ _ _ _ _ _ _ _ _ _ _ _ _ _ _ _ _ _ _ _ _ _ _ _ _ _ _ _ _ _ _ _ _ _ _ _ _ _ _ _ _ _ _ _ _ _ _ _ _ _ _ _ _ _ _ _ _ _ _ _ _ _ _ _ _ _ _ _ _ _ _ _ _ _ _ _ _ _ _ _ _ _ _ _ _ _ _ _ _ _ _ _ _ _ _ _ _ _ _ _ _ _ _ _ _ _ _ _ _ _ _ _ _ _ _ _ _ _ _ _ _ _ _ _ _ _ _ _ h; cases h
  | succ n ih =>
    intro y1 y2 y7 y9 y10 S p g0 g3 g4 g5 g6 g8 g11 g12 g13 g14 g15 g16 g17 g18 g19 g20 g21 g22 g23 g24 g25 g26 g27 g28 g29 g30 g31 g32 g33 g34 g35 g36 g37 g38 g39 g40 g41 g42 g43 g44 g45 g46 g47 g48 g49 g50 g51 g52 g53 g54 g55 g56 g57 g58 g59 g60 g61 g62 g63 g64 g65 g66 g67 g68 g69 g70 g71 g72 g73 g74 g75 g76 g77 g78 g79 g80 g81 g82 g83 g84 g85 g86 g87 g88 g89 g90 g91 g92 g93 g94 g95 g96 g97 g98 g99 g100 g101 g102 g103 g104 g105 g106 g107 g108 g109 g110 g111 g112 g113 g114 g115 g116 g117 g118 g119 g120 g121 g122 g123 g124 g125 g126 g127 g128 g129 g130 g131 g132 g133 g134 g135 g136 g137 g138 g139 g140 g141 g142 g143 g144 g145 g146 g147 g148 g149 g150 g151 g152 g153 g154 g155 g156 g157 g158 g159 g160 g161 g162 g163 g164 g165 g166 g167 g168 g169 g170 g171 g172 g173 g174 g175 g176 g177 g178 g179 g180 g181 g182 g183 g184 g185 g186 g187 g188 h
    simp only [L3] at h
    refine hr_inLoop ?_
    refine q_seq e43 ?_
    refine q_seq e44 ?_
    refine q_region e45 rfl ?_
    refine q_op (dst := some 48) rfl (fun _ ho => ok_move ho (.tmp rfl)) ?_
    refine q_op (dst := some 49) rfl (fun _ ho => ok_move ho (.tmp rfl)) ?_
    refine q_op (dst := some 50) rfl (fun _ ho => ok_len_sl (q := Sl.a y1) (n := Sl.len y1) (z := Sl.cap y1) ho rfl tu42 (.tmp rfl)) ?_
    refine q_op (dst := some 51) rfl (fun _ ho => ok_ibin ho (.tmp rfl) (.tmp rfl) rfl) ?_
    refine hr_region_end ?_
    try dsimp only [HAct.put, List.set_cons_zero, List.set_cons_succ]
    rcases ifc h with ⟨hc12, h⟩ | ⟨hc12, h⟩
    · refine q_cond_t e46 (.tmp rfl) (decide_eq_true hc12) ?_
      refine q_skipc e47 ?_
      refine q_seq e49 ?_
      refine q_block e50 ?_
      refine q_seq e51 ?_
      refine q_region e52 rfl ?_
      refine q_op (dst := some 11) rfl (fun _ ho => ok_assign ho (.bool _)) ?_
      refine hr_region_end ?_
      try dsimp only [HAct.put, List.set_cons_zero, List.set_cons_succ]
      refine q_seq e53 ?_
      refine q_seq e54 ?_
      refine q_region e55 rfl ?_
      refine q_op (dst := some 54) rfl (fun _ ho => ok_move ho (.tmp rfl)) ?_
      refine q_op (dst := some 55) rfl (fun _ ho => ok_move ho (.tmp rfl)) ?_
      obtain ⟨p13, hp13, h⟩ := bindo h
      refine q_op (dst := some 56) rfl (fun _ ho => ok_indexAddr (s := y1) ho tu42 sz52 (.tmp rfl) (.tmp rfl) hp13) ?_
      refine q_op (dst := some 57) rfl (fun _ ho => ok_fieldAddr_s ho fi52_0 (by decide) (.tmp rfl) rfl) ?_
      try dsimp only [HAct.put, List.set_cons_zero, List.set_cons_succ]
      obtain ⟨p14, hp14, h⟩ := bindo h
      refine q_op (dst := some 58) rfl (fun _ ho => ok_load_s ho sc3 (.tmp rfl) rfl (ldI_out hp14)) ?_
      refine q_op (dst := some 59) rfl (fun _ ho => ok_ibin ho (.tmp rfl) (.int _ _) rfl) ?_
      refine hr_region_end ?_
      try dsimp only [HAct.put, List.set_cons_zero, List.set_cons_succ]
      rcases ifc h with ⟨hc15, h⟩ | ⟨hc15, h⟩
      · refine q_cond_t e56 (.tmp rfl) (decide_eq_true hc15) ?_
        refine x_start (cls := [0, 0, 0, 1, 0, 1, 2, 0, 0, 0, 3, 0, 3, 2, 0, 0]) (rk := [0, 1, 2, 3, 4, 5, 6, 7, 8, 9, 10, 11, 12, 13, 14, 15]) e57 (by kernel_rfl) ?_
        refine x_goP (f_op (dst := some 60) (ts := [7]) rfl (by intro _ _ h; cases h) (by kernel_rfl) (fun _ _ ho => ok_move ho (.tmp rfl))) rfl (by decide) (by decide) ?_
        refine x_goP (f_op (dst := some 61) (ts := [1]) rfl (by intro _ _ h; cases h) (by kernel_rfl) (fun _ _ ho => ok_move ho (.tmp rfl))) rfl (by decide) (by decide) ?_
        refine x_goP (f_op (dst := some 62) (ts := [10]) rfl (by intro _ _ h; cases h) (by kernel_rfl) (fun _ _ ho => ok_move ho (.tmp rfl))) rfl (by decide) (by decide) ?_
        obtain ⟨p16, hp16, h⟩ := bindo h
        refine x_goP (r_op (dst := some 63) (ts := [61, 62]) rfl (by intro _ _ h; cases h) (by kernel_rfl) (fun _ ho => ok_indexAddr (s := y1) ho tu42 sz52 (.tmp rfl) (.tmp rfl) hp16)) rfl (by decide) (by decide) ?_
        try dsimp only [HAct.put, List.set_cons_zero, List.set_cons_succ]
        refine x_goP (f_op (dst := some 64) (ts := [63]) rfl (by intro _ _ h; cases h) (by kernel_rfl) (fun _ _ ho => ok_fieldAddr_s ho fi52_1 (by decide) (.tmp rfl) rfl)) rfl (by decide) (by decide) ?_
        obtain ⟨p17, hp17, h⟩ := bindo h
        refine x_goP (r_op (dst := some 65) (ts := [64]) rfl (by intro _ _ h; cases h) (by kernel_rfl) (fun _ ho => ok_load_s ho sc9 (.tmp rfl) rfl (ldS_out hp17))) rfl (by decide) (by decide) ?_
        obtain ⟨p18, hp18, h⟩ := bindo h
        refine x_goE (e_call (dst := some 66) (ts := [60, 65]) rfl (by kernel_rfl) (.func _) (.cons (.tmp rfl) (.cons (.tmp rfl) Evs.nil)) (HInv.static book_Book_int_Delete.at_ book_Book_int_Delete.body (book_Book_int_Delete.snd hD hH hp18))) rfl trivial ?_
        refine x_goP (f_op (dst := some 67) (ts := [9]) rfl (by intro _ _ h; cases h) (by kernel_rfl) (fun _ _ ho => ok_move ho (.tmp rfl))) rfl (by decide) (by decide) ?_
        try dsimp only [HAct.put, List.set_cons_zero, List.set_cons_succ]
        refine x_goP (f_op (dst := some 68) (ts := [1]) rfl (by intro _ _ h; cases h) (by kernel_rfl) (fun _ _ ho => ok_move ho (.tmp rfl))) rfl (by decide) (by decide) ?_
        refine x_goP (f_op (dst := some 69) (ts := [10]) rfl (by intro _ _ h; cases h) (by kernel_rfl) (fun _ _ ho => ok_move ho (.tmp rfl))) rfl (by decide) (by decide) ?_
        obtain ⟨p19, hp19, h⟩ := bindo h
        obtain ⟨p20, hp20, h⟩ := bindo h
        obtain ⟨hg21, h⟩ := gd h
        refine x_late (r_op (dst := some 70) (ts := [68, 69]) rfl (by intro _ _ h; cases h) (by kernel_rfl) (fun _ ho => ok_indexAddr (s := y1) ho tu42 sz52 (.tmp rfl) (.tmp rfl) hp19)) rfl ⟨.inr (l_op (dst := some 70) (ts := [68, 69]) rfl (by intro _ _ h; cases h) (by kernel_rfl) (fun _ ho => ok_indexAddr (s := y1) ho tu42 sz52 (.tmp rfl) (.tmp rfl) (hp20.trans (congrArg some hg21)))), trivial⟩ ?_
        refine x_goP (f_op (dst := some 71) (ts := [70]) rfl (by intro _ _ h; cases h) (by kernel_rfl) (fun _ _ ho => ok_fieldAddr_s ho fi52_1 (by decide) (.tmp rfl) rfl)) rfl (by decide) (by decide) ?_
        try dsimp only [HAct.put, List.set_cons_zero, List.set_cons_succ]
        obtain ⟨p22, hp22, h⟩ := bindo h
        obtain ⟨p23, hp23, h⟩ := bindo h
        obtain ⟨hg24, h⟩ := gd h
        refine x_late (r_op (dst := some 72) (ts := [71]) rfl (by intro _ _ h; cases h) (by kernel_rfl) (fun _ ho => ok_load_s ho sc9 (.tmp rfl) rfl (ldS_out hp22))) rfl ⟨.inr (l_op (dst := some 72) (ts := [71]) rfl (by intro _ _ h; cases h) (by kernel_rfl) (fun _ ho => ok_load_s ho sc9 (.tmp rfl) rfl (ldS_out (hp23.trans (congrArg some hg24))))), trivial⟩ ?_
        obtain ⟨p25, hp25, h⟩ := bindo h
        refine x_goE (e_call (dst := some 73) (ts := [67, 72]) rfl (by kernel_rfl) (.func _) (.cons (.tmp rfl) (.cons (.tmp rfl) Evs.nil)) (HInv.static rollcallref02_Book_Delete.at_ rollcallref02_Book_Delete.body (rollcallref02_Book_Delete.snd  hp25))) rfl ⟨.inl (by kernel_rfl), .inl (by kernel_rfl), trivial⟩ ?_
        refine x_goP (f_op (dst := some 74) (ts := [66, 73]) rfl (by intro _ _ h; cases h) (by kernel_rfl) (fun _ _ ho => ok_beq ho tu4 (.inl ⟨rfl, rfl⟩) (.tmp rfl) (.tmp rfl))) rfl (by decide) (by decide) ?_
        refine x_goP (f_op (dst := some 11) (ts := [74]) rfl (by intro _ _ h; cases h) (by kernel_rfl) (fun _ _ ho => ok_assign ho (.tmp rfl))) rfl (by decide) (by decide) ?_
        refine x_rest rfl ?_
        refine hr_region_end ?_
        try dsimp only [HAct.put, List.set_cons_zero, List.set_cons_succ]
        try dsimp only [HAct.put, List.set_cons_zero, List.set_cons_succ]
        exact J4_snd hD hH ih h
      · refine q_cond_f e56 (.tmp rfl) (decide_eq_false hc15) ?_
        refine x_start (cls := [0, 0, 0, 1, 0, 1, 0, 0, 1, 0, 1, 2, 0, 0, 0, 3, 0, 3, 0, 0, 3, 0, 3, 2, 0, 0]) (rk := [0, 1, 2, 3, 4, 5, 6, 7, 8, 9, 10, 11, 12, 13, 14, 15, 16, 17, 18, 19, 20, 21, 22, 23, 24, 25]) e58 (by kernel_rfl) ?_
        refine x_goP (f_op (dst := some 75) (ts := [7]) rfl (by intro _ _ h; cases h) (by kernel_rfl) (fun _ _ ho => ok_move ho (.tmp rfl))) rfl (by decide) (by decide) ?_
        refine x_goP (f_op (dst := some 76) (ts := [1]) rfl (by intro _ _ h; cases h) (by kernel_rfl) (fun _ _ ho => ok_move ho (.tmp rfl))) rfl (by decide) (by decide) ?_
        refine x_goP (f_op (dst := some 77) (ts := [10]) rfl (by intro _ _ h; cases h) (by kernel_rfl) (fun _ _ ho => ok_move ho (.tmp rfl))) rfl (by decide) (by decide) ?_
        obtain ⟨p54, hp54, h⟩ := bindo h
        refine x_goP (r_op (dst := some 78) (ts := [76, 77]) rfl (by intro _ _ h; cases h) (by kernel_rfl) (fun _ ho => ok_indexAddr (s := y1) ho tu42 sz52 (.tmp rfl) (.tmp rfl) hp54)) rfl (by decide) (by decide) ?_
        try dsimp only [HAct.put, List.set_cons_zero, List.set_cons_succ]
        refine x_goP (f_op (dst := some 79) (ts := [78]) rfl (by intro _ _ h; cases h) (by kernel_rfl) (fun _ _ ho => ok_fieldAddr_s ho fi52_1 (by decide) (.tmp rfl) rfl)) rfl (by decide) (by decide) ?_
        obtain ⟨p55, hp55, h⟩ := bindo h
        refine x_goP (r_op (dst := some 80) (ts := [79]) rfl (by intro _ _ h; cases h) (by kernel_rfl) (fun _ ho => ok_load_s ho sc9 (.tmp rfl) rfl (ldS_out hp55))) rfl (by decide) (by decide) ?_
        refine x_goP (f_op (dst := some 81) (ts := [1]) rfl (by intro _ _ h; cases h) (by kernel_rfl) (fun _ _ ho => ok_move ho (.tmp rfl))) rfl (by decide) (by decide) ?_
        refine x_goP (f_op (dst := some 82) (ts := [10]) rfl (by intro _ _ h; cases h) (by kernel_rfl) (fun _ _ ho => ok_move ho (.tmp rfl))) rfl (by decide) (by decide) ?_
        try dsimp only [HAct.put, List.set_cons_zero, List.set_cons_succ]
        obtain ⟨p56, hp56, h⟩ := bindo h
        refine x_goP (r_op (dst := some 83) (ts := [81, 82]) rfl (by intro _ _ h; cases h) (by kernel_rfl) (fun _ ho => ok_indexAddr (s := y1) ho tu42 sz52 (.tmp rfl) (.tmp rfl) hp56)) rfl (by decide) (by decide) ?_
        refine x_goP (f_op (dst := some 84) (ts := [83]) rfl (by intro _ _ h; cases h) (by kernel_rfl) (fun _ _ ho => ok_fieldAddr_s ho fi52_2 (by decide) (.tmp rfl) rfl)) rfl (by decide) (by decide) ?_
        obtain ⟨p57, hp57, h⟩ := bindo h
        refine x_goP (r_op (dst := some 85) (ts := [84]) rfl (by intro _ _ h; cases h) (by kernel_rfl) (fun _ ho => ok_load_s ho sc3 (.tmp rfl) rfl (ldI_out hp57))) rfl (by decide) (by decide) ?_
        obtain ⟨p58, hp58, h⟩ := bindo h
        refine x_goE (e_call (dst := some 86) (ts := [75, 80, 85]) rfl (by kernel_rfl) (.func _) (.cons (.tmp rfl) (.cons (.tmp rfl) (.cons (.tmp rfl) Evs.nil))) (HInv.static book_Book_int_Put.at_ book_Book_int_Put.body (book_Book_int_Put.snd hD hH hp58))) rfl trivial ?_
        try dsimp only [HAct.put, List.set_cons_zero, List.set_cons_succ]
        refine x_goP (f_op (dst := some 87) (ts := [9]) rfl (by intro _ _ h; cases h) (by kernel_rfl) (fun _ _ ho => ok_move ho (.tmp rfl))) rfl (by decide) (by decide) ?_
        refine x_goP (f_op (dst := some 88) (ts := [1]) rfl (by intro _ _ h; cases h) (by kernel_rfl) (fun _ _ ho => ok_move ho (.tmp rfl))) rfl (by decide) (by decide) ?_
        refine x_goP (f_op (dst := some 89) (ts := [10]) rfl (by intro _ _ h; cases h) (by kernel_rfl) (fun _ _ ho => ok_move ho (.tmp rfl))) rfl (by decide) (by decide) ?_
        obtain ⟨p59, hp59, h⟩ := bindo h
        obtain ⟨p60, hp60, h⟩ := bindo h
        obtain ⟨hg61, h⟩ := gd h
        refine x_late (r_op (dst := some 90) (ts := [88, 89]) rfl (by intro _ _ h; cases h) (by kernel_rfl) (fun _ ho => ok_indexAddr (s := y1) ho tu42 sz52 (.tmp rfl) (.tmp rfl) hp59)) rfl ⟨.inr (l_op (dst := some 90) (ts := [88, 89]) rfl (by intro _ _ h; cases h) (by kernel_rfl) (fun _ ho => ok_indexAddr (s := y1) ho tu42 sz52 (.tmp rfl) (.tmp rfl) (hp60.trans (congrArg some hg61)))), trivial⟩ ?_
        try dsimp only [HAct.put, List.set_cons_zero, List.set_cons_succ]
        refine x_goP (f_op (dst := some 91) (ts := [90]) rfl (by intro _ _ h; cases h) (by kernel_rfl) (fun _ _ ho => ok_fieldAddr_s ho fi52_1 (by decide) (.tmp rfl) rfl)) rfl (by decide) (by decide) ?_
        obtain ⟨p62, hp62, h⟩ := bindo h
        obtain ⟨p63, hp63, h⟩ := bindo h
        obtain ⟨hg64, h⟩ := gd h
        refine x_late (r_op (dst := some 92) (ts := [91]) rfl (by intro _ _ h; cases h) (by kernel_rfl) (fun _ ho => ok_load_s ho sc9 (.tmp rfl) rfl (ldS_out hp62))) rfl ⟨.inr (l_op (dst := some 92) (ts := [91]) rfl (by intro _ _ h; cases h) (by kernel_rfl) (fun _ ho => ok_load_s ho sc9 (.tmp rfl) rfl (ldS_out (hp63.trans (congrArg some hg64))))), trivial⟩ ?_
        refine x_goP (f_op (dst := some 93) (ts := [1]) rfl (by intro _ _ h; cases h) (by kernel_rfl) (fun _ _ ho => ok_move ho (.tmp rfl))) rfl (by decide) (by decide) ?_
        refine x_goP (f_op (dst := some 94) (ts := [10]) rfl (by intro _ _ h; cases h) (by kernel_rfl) (fun _ _ ho => ok_move ho (.tmp rfl))) rfl (by decide) (by decide) ?_
        try dsimp only [HAct.put, List.set_cons_zero, List.set_cons_succ]
        obtain ⟨p65, hp65, h⟩ := bindo h
        obtain ⟨p66, hp66, h⟩ := bindo h
        obtain ⟨hg67, h⟩ := gd h
        refine x_late (r_op (dst := some 95) (ts := [93, 94]) rfl (by intro _ _ h; cases h) (by kernel_rfl) (fun _ ho => ok_indexAddr (s := y1) ho tu42 sz52 (.tmp rfl) (.tmp rfl) hp65)) rfl ⟨.inr (l_op (dst := some 95) (ts := [93, 94]) rfl (by intro _ _ h; cases h) (by kernel_rfl) (fun _ ho => ok_indexAddr (s := y1) ho tu42 sz52 (.tmp rfl) (.tmp rfl) (hp66.trans (congrArg some hg67)))), trivial⟩ ?_
        refine x_goP (f_op (dst := some 96) (ts := [95]) rfl (by intro _ _ h; cases h) (by kernel_rfl) (fun _ _ ho => ok_fieldAddr_s ho fi52_2 (by decide) (.tmp rfl) rfl)) rfl (by decide) (by decide) ?_
        obtain ⟨p68, hp68, h⟩ := bindo h
        obtain ⟨p69, hp69, h⟩ := bindo h
        obtain ⟨hg70, h⟩ := gd h
        refine x_late (r_op (dst := some 97) (ts := [96]) rfl (by intro _ _ h; cases h) (by kernel_rfl) (fun _ ho => ok_load_s ho sc3 (.tmp rfl) rfl (ldI_out hp68))) rfl ⟨.inr (l_op (dst := some 97) (ts := [96]) rfl (by intro _ _ h; cases h) (by kernel_rfl) (fun _ ho => ok_load_s ho sc3 (.tmp rfl) rfl (ldI_out (hp69.trans (congrArg some hg70))))), trivial⟩ ?_
        obtain ⟨p71, hp71, h⟩ := bindo h
        refine x_goE (e_call (dst := some 98) (ts := [87, 92, 97]) rfl (by kernel_rfl) (.func _) (.cons (.tmp rfl) (.cons (.tmp rfl) (.cons (.tmp rfl) Evs.nil))) (HInv.static rollcallref02_Book_Put.at_ rollcallref02_Book_Put.body (rollcallref02_Book_Put.snd  hp71))) rfl ⟨.inl (by kernel_rfl), .inl (by kernel_rfl), .inl (by kernel_rfl), .inl (by kernel_rfl), trivial⟩ ?_
        try dsimp only [HAct.put, List.set_cons_zero, List.set_cons_succ]
        refine x_goP (f_op (dst := some 99) (ts := [86, 98]) rfl (by intro _ _ h; cases h) (by kernel_rfl) (fun _ _ ho => ok_ibin ho (.tmp rfl) (.tmp rfl) rfl)) rfl (by decide) (by decide) ?_
        refine x_goP (f_op (dst := some 11) (ts := [99]) rfl (by intro _ _ h; cases h) (by kernel_rfl) (fun _ _ ho => ok_assign ho (.tmp rfl))) rfl (by decide) (by decide) ?_
        refine x_rest rfl ?_
        refine hr_region_end ?_
        try dsimp only [HAct.put, List.set_cons_zero, List.set_cons_succ]
        try dsimp only [HAct.put, List.set_cons_zero, List.set_cons_succ]
        exact J4_snd hD hH ih h
    · refine q_cond_f e46 (.tmp rfl) (decide_eq_false hc12) ?_
      refine q_exit e48 rfl ?_
      refine q_seq e73 ?_
      refine q_region e74 rfl ?_
      refine q_op (dst := some 177) rfl (fun _ ho => ok_move ho (.tmp rfl)) ?_
      refine q_op (dst := some 178) rfl (fun _ ho => ok_move ho (.tmp rfl)) ?_
      obtain ⟨p72, hp72, h⟩ := bindo h
      refine q_call (dst := some 179) rfl (.func _) (.cons (.tmp rfl) (.cons (.str _) (.cons (.bool _) Evs.nil))) (HInv.static rollcallref02_Book_From.at_ rollcallref02_Book_From.body (rollcallref02_Book_From.snd  hp72)) ?_
      rintro _ _ ⟨rfl, rfl⟩
      obtain ⟨p73, hp73, h⟩ := bindo h
      refine q_call (dst := some 180) rfl (.func _) (.cons (.tmp rfl) (.cons (.tmp rfl) (.cons (.str _) (.cons (.bool _) Evs.nil)))) (HInv.static rollcalllaw02_same.at_ rollcalllaw02_same.body (rollcalllaw02_same.snd hD hH hp73)) ?_
      rintro _ _ ⟨rfl, rfl⟩
      try dsimp only [HAct.put, List.set_cons_zero, List.set_cons_succ]
      refine q_op (dst := some 181) rfl (fun _ ho => ok_move ho (.tmp rfl)) ?_
      rcases ifc h with ⟨hc74, h⟩ | ⟨hc74, h⟩
      · refine q_op_g (t := 181) (dst := some 182) rfl rfl rfl hc74 (fun _ ho => ok_move ho (.tmp rfl)) ?_
        refine q_op_g (t := 181) (dst := some 183) rfl rfl rfl hc74 (fun _ ho => ok_move ho (.tmp rfl)) ?_
        refine q_op_g (t := 181) (dst := some 184) rfl rfl rfl hc74 (fun _ ho => ok_move ho (.tmp rfl)) ?_
        try dsimp only [HAct.put, List.set_cons_zero, List.set_cons_succ]
        obtain ⟨p75, hp75, h⟩ := bindo h
        refine q_call_g (t := 181) (dst := some 185) rfl rfl rfl hc74 (.func _) (.cons (.tmp rfl) (.cons (.tmp rfl) (.cons (.bool _) Evs.nil))) (HInv.static rollcallref02_Book_From.at_ rollcallref02_Book_From.body (rollcallref02_Book_From.snd  hp75)) ?_
        rintro _ _ ⟨rfl, rfl⟩
        refine q_op_g (t := 181) (dst := some 186) rfl rfl rfl hc74 (fun _ ho => ok_move ho (.tmp rfl)) ?_
        obtain ⟨p76, hp76, h⟩ := bindo h
        refine q_call_g (t := 181) (dst := some 187) rfl rfl rfl hc74 (.func _) (.cons (.tmp rfl) (.cons (.tmp rfl) (.cons (.tmp rfl) (.cons (.bool _) Evs.nil)))) (HInv.static rollcalllaw02_same.at_ rollcalllaw02_same.body (rollcalllaw02_same.snd hD hH hp76)) ?_
        rintro _ _ ⟨rfl, rfl⟩
        refine q_op (dst := some 188) rfl (fun _ ho => ok_pick_tt ho (.tmp rfl) hc74 (.tmp rfl)) ?_
        try dsimp only [HAct.put, List.set_cons_zero, List.set_cons_succ]
        try dsimp only [HAct.put, List.set_cons_zero, List.set_cons_succ]
        exact J6_snd hD hH h
      · refine q_skip (dst := some 182) (t := 181) rfl rfl rfl (bfalse hc74) ?_
        refine q_skip (dst := some 183) (t := 181) rfl rfl rfl (bfalse hc74) ?_
        refine q_skip (dst := some 184) (t := 181) rfl rfl rfl (bfalse hc74) ?_
        try dsimp only [HAct.put, List.set_cons_zero, List.set_cons_succ]
        refine q_skip (dst := some 185) (t := 181) rfl rfl rfl (bfalse hc74) ?_
        refine q_skip (dst := some 186) (t := 181) rfl rfl rfl (bfalse hc74) ?_
        refine q_skip (dst := some 187) (t := 181) rfl rfl rfl (bfalse hc74) ?_
        refine q_op (dst := some 188) rfl (fun _ ho => ok_pick_ff ho (.tmp rfl) (bfalse hc74) (.bool _)) ?_
        try dsimp only [HAct.put, List.set_cons_zero, List.set_cons_succ]
        try dsimp only [HAct.put, List.set_cons_zero, List.set_cons_succ]
        exact J6_snd hD hH h
def J1 (D : Dp) (H : Hd) (k : Nat) (y0 : Int) (y1 : Sl) (y2 : (List UInt8)) (y7 : (Option HA)) (y8 : Int) (y36 : Bool) (S : HS) : Option ((Bool) × HS) :=
  (if y36 = true then
  (if y8 = 2 then
  J2 D H k (Option.isNone y7) S else
  J2 D H k false S) else
  (if (!decide (y8 = 0)) = true then
  some (false, S) else
  (letv (HS.new S (.cells 2 [[(.int .i64 y0), (Sl.hv Sl.nil)]] true)) fun p11 =>
  L3 D H k k y1 y2 y7 (some (HA.cell0 S.next)) 0 p11)))
theorem J1_snd {D : Dp} {H : Hd} {k : Nat} (hD : DSound Try.prog base W0 D) (hH : HSound Try.prog base W0 β0 H)  {y0 : Int} {y1 : Sl} {y2 : (List UInt8)} {y7 : (Option HA)} {y8 : Int} {y36 : Bool} {S : HS} {p : (Bool) × HS} {g3 g4 g5 g6 g9 g10 g11 g12 g13 g14 g15 g16 g17 g18 g19 g20 g21 g22 g23 g24 g25 g26 g27 g28 g29 g30 g31 g32 g33 g34 g35 g37 g38 g39 g40 g41 g42 g43 g44 g45 g46 g47 g48 g49 g50 g51 g52 g53 g54 g55 g56 g57 g58 g59 g60 g61 g62 g63 g64 g65 g66 g67 g68 g69 g70 g71 g72 g73 g74 g75 g76 g77 g78 g79 g80 g81 g82 g83 g84 g85 g86 g87 g88 g89 g90 g91 g92 g93 g94 g95 g96 g97 g98 g99 g100 g101 g102 g103 g104 g105 g106 g107 g108 g109 g110 g111 g112 g113 g114 g115 g116 g117 g118 g119 g120 g121 g122 g123 g124 g125 g126 g127 g128 g129 g130 g131 g132 g133 g134 g135 g136 g137 g138 g139 g140 g141 g142 g143 g144 g145 g146 g147 g148 g149 g150 g151 g152 g153 g154 g155 g156 g157 g158 g159 g160 g161 g162 g163 g164 g165 g166 g167 g168 g169 g170 g171 g172 g173 g174 g175 g176 g177 g178 g179 g180 g181 g182 g183 g184 g185 g186 g187 g188 : HV} (h : J1 D H k y0 y1 y2 y7 y8 y36 S = some p) : HRun Try.prog base W0 β0 5 none [.code c23, .code c28] ⟨[(.int .i64 y0), (Sl.hv y1), (.str y2), g3, g4, g5, g6, (.ptr y7), (.int .i64 y8), g9, g10, g11, g12, g13, g14, g15, g16, g17, g18, g19, g20, g21, g22, g23, g24, g25, g26, g27, g28, g29, g30, g31, g32, g33, g34, g35, (.bool y36), g37, g38, g39, g40, g41, g42, g43, g44, g45, g46, g47, g48, g49, g50, g51, g52, g53, g54, g55, g56, g57, g58, g59, g60, g61, g62, g63, g64, g65, g66, g67, g68, g69, g70, g71, g72, g73, g74, g75, g76, g77, g78, g79, g80, g81, g82, g83, g84, g85, g86, g87, g88, g89, g90, g91, g92, g93, g94, g95, g96, g97, g98, g99, g100, g101, g102, g103, g104, g105, g106, g107, g108, g109, g110, g111, g112, g113, g114, g115, g116, g117, g118, g119, g120, g121, g122, g123, g124, g125, g126, g127, g128, g129, g130, g131, g132, g133, g134, g135, g136, g137, g138, g139, g140, g141, g142, g143, g144, g145, g146, g147, g148, g149, g150, g151, g152, g153, g154, g155, g156, g157, g158, g159, g160, g161, g162, g163, g164, g165, g166, g167, g168, g169, g170, g171, g172, g173, g174, g175, g176, g177, g178, g179, g180, g181, g182, g183, g184, g185, g186, g187, g188], []⟩ S (fun v S1 => v = (.bool p.1) ∧ S1 = p.2) := by
  unfold J1 at h
  rcases ifc h with ⟨hc8, h⟩ | ⟨hc8, h⟩
  · refine q_cond_t e23 (.tmp rfl) hc8 ?_
    refine q_seq e24 ?_
    refine q_region e25 rfl ?_
    refine q_op (dst := some 37) rfl (fun _ ho => ok_move ho (.tmp rfl)) ?_
    refine q_op (dst := some 38) rfl (fun _ ho => ok_ibin ho (.tmp rfl) (.int _ _) rfl) ?_
    refine q_op (dst := some 39) rfl (fun _ ho => ok_move ho (.tmp rfl)) ?_
    rcases ifc h with ⟨hc9, h⟩ | ⟨hc9, h⟩
    · refine q_op_g (t := 39) (dst := some 40) rfl rfl rfl (decide_eq_true hc9) (fun _ ho => ok_move ho (.tmp rfl)) ?_
      try dsimp only [HAct.put, List.set_cons_zero, List.set_cons_succ]
      refine q_op_g (t := 39) (dst := some 41) rfl rfl rfl (decide_eq_true hc9) (fun _ ho => ok_nil_ptr ho tu44 (.tmp rfl) (.inl ⟨rfl, rfl⟩)) ?_
      refine q_op (dst := some 42) rfl (fun _ ho => ok_pick_tt ho (.tmp rfl) (decide_eq_true hc9) (.tmp rfl)) ?_
      try dsimp only [HAct.put, List.set_cons_zero, List.set_cons_succ]
      exact J2_snd hD hH h
    · refine q_skip (dst := some 40) (t := 39) rfl rfl rfl (decide_eq_false hc9) ?_
      try dsimp only [HAct.put, List.set_cons_zero, List.set_cons_succ]
      refine q_skip (dst := some 41) (t := 39) rfl rfl rfl (decide_eq_false hc9) ?_
      refine q_op (dst := some 42) rfl (fun _ ho => ok_pick_ff ho (.tmp rfl) (decide_eq_false hc9) (.bool _)) ?_
      try dsimp only [HAct.put, List.set_cons_zero, List.set_cons_succ]
      exact J2_snd hD hH h
  · refine q_cond_f e23 (.tmp rfl) (bfalse hc8) ?_
    refine q_skipc e27 ?_
    refine q_seq e28 ?_
    refine q_seq e29 ?_
    refine q_region e30 rfl ?_
    refine q_op (dst := some 43) rfl (fun _ ho => ok_move ho (.tmp rfl)) ?_
    refine q_op (dst := some 44) rfl (fun _ ho => ok_ibin ho (.tmp rfl) (.int _ _) rfl) ?_
    refine hr_region_end ?_
    try dsimp only [HAct.put, List.set_cons_zero, List.set_cons_succ]
    rcases ifc h with ⟨hc10, h⟩ | ⟨hc10, h⟩
    · refine q_cond_t e31 (.tmp rfl) hc10 ?_
      refine q_seq e32 ?_
      refine q_region e33 rfl ?_
      refine q_op (dst := some 6) rfl (fun _ ho => ok_assign ho (.bool _)) ?_
      refine hr_region_end ?_
      try dsimp only [HAct.put, List.set_cons_zero, List.set_cons_succ]
      cases h
      exact q_ret e34 at_.at_ rfl (res1 rfl rfl) ⟨rfl, rfl⟩
    · refine q_cond_f e31 (.tmp rfl) (bfalse hc10) ?_
      refine q_skipc e35 ?_
      refine q_seq e36 ?_
      refine q_region e37 rfl ?_
      refine q_op (dst := some 45) rfl (fun _ ho => ok_move ho (.tmp rfl)) ?_
      refine q_op (dst := some 46) rfl (fun _ ho => ok_build (is := [0]) (xs := [(.tmp 45)]) (r := [(.int .i64 y0), (Sl.hv Sl.nil)]) st50 ho rfl rfl (.cons (.tmp rfl) Evs.nil) rfl) ?_
      obtain ⟨p11, hp11, h⟩ := leto h
      refine q_op (dst := some 47) rfl (fun _ ho => ok_box_e ho (.tmp rfl) (Nat.zero_lt_succ _) rfl hp11) ?_
      refine q_op (dst := some 9) rfl (fun _ ho => ok_assign ho (.tmp rfl)) ?_
      refine hr_region_end ?_
      try dsimp only [HAct.put, List.set_cons_zero, List.set_cons_succ]
      refine q_seq e38 ?_
      refine q_seq e39 ?_
      refine q_region e40 rfl ?_
      refine q_op (dst := some 10) rfl (fun _ ho => ok_assign ho (.int _ _)) ?_
      refine hr_region_end ?_
      try dsimp only [HAct.put, List.set_cons_zero, List.set_cons_succ]
      refine q_block e41 ?_
      refine q_loop e42 ?_
      try dsimp only [HAct.put, List.set_cons_zero, List.set_cons_succ]
      exact L3_snd hD hH h
def J0 (D : Dp) (H : Hd) (k : Nat) (y0 : Int) (y1 : Sl) (y2 : (List UInt8)) (y25 : Bool) (S : HS) : Option ((Bool) × HS) :=
  (if y25 = true then
  some (true, S) else
  (Option.bind (book_New_int.f y0 S) fun p6 =>
  (if y0 < 0 then
  J1 D H k y0 y1 y2 p6.1.1 p6.1.2 true p6.2 else
  J1 D H k y0 y1 y2 p6.1.1 p6.1.2 (decide (y0 > 100000)) p6.2)))
theorem J0_snd {D : Dp} {H : Hd} {k : Nat} (hD : DSound Try.prog base W0 D) (hH : HSound Try.prog base W0 β0 H)  {y0 : Int} {y1 : Sl} {y2 : (List UInt8)} {y25 : Bool} {S : HS} {p : (Bool) × HS} {g3 g4 g5 g6 g7 g8 g9 g10 g11 g12 g13 g14 g15 g16 g17 g18 g19 g20 g21 g22 g23 g24 g26 g27 g28 g29 g30 g31 g32 g33 g34 g35 g36 g37 g38 g39 g40 g41 g42 g43 g44 g45 g46 g47 g48 g49 g50 g51 g52 g53 g54 g55 g56 g57 g58 g59 g60 g61 g62 g63 g64 g65 g66 g67 g68 g69 g70 g71 g72 g73 g74 g75 g76 g77 g78 g79 g80 g81 g82 g83 g84 g85 g86 g87 g88 g89 g90 g91 g92 g93 g94 g95 g96 g97 g98 g99 g100 g101 g102 g103 g104 g105 g106 g107 g108 g109 g110 g111 g112 g113 g114 g115 g116 g117 g118 g119 g120 g121 g122 g123 g124 g125 g126 g127 g128 g129 g130 g131 g132 g133 g134 g135 g136 g137 g138 g139 g140 g141 g142 g143 g144 g145 g146 g147 g148 g149 g150 g151 g152 g153 g154 g155 g156 g157 g158 g159 g160 g161 g162 g163 g164 g165 g166 g167 g168 g169 g170 g171 g172 g173 g174 g175 g176 g177 g178 g179 g180 g181 g182 g183 g184 g185 g186 g187 g188 : HV} (h : J0 D H k y0 y1 y2 y25 S = some p) : HRun Try.prog base W0 β0 5 none [.code c13, .code c18] ⟨[(.int .i64 y0), (Sl.hv y1), (.str y2), g3, g4, g5, g6, g7, g8, g9, g10, g11, g12, g13, g14, g15, g16, g17, g18, g19, g20, g21, g22, g23, g24, (.bool y25), g26, g27, g28, g29, g30, g31, g32, g33, g34, g35, g36, g37, g38, g39, g40, g41, g42, g43, g44, g45, g46, g47, g48, g49, g50, g51, g52, g53, g54, g55, g56, g57, g58, g59, g60, g61, g62, g63, g64, g65, g66, g67, g68, g69, g70, g71, g72, g73, g74, g75, g76, g77, g78, g79, g80, g81, g82, g83, g84, g85, g86, g87, g88, g89, g90, g91, g92, g93, g94, g95, g96, g97, g98, g99, g100, g101, g102, g103, g104, g105, g106, g107, g108, g109, g110, g111, g112, g113, g114, g115, g116, g117, g118, g119, g120, g121, g122, g123, g124, g125, g126, g127, g128, g129, g130, g131, g132, g133, g134, g135, g136, g137, g138, g139, g140, g141, g142, g143, g144, g145, g146, g147, g148, g149, g150, g151, g152, g153, g154, g155, g156, g157, g158, g159, g160, g161, g162, g163, g164, g165, g166, g167, g168, g169, g170, g171, g172, g173, g174, g175, g176, g177, g178, g179, g180, g181, g182, g183, g184, g185, g186, g187, g188], []⟩ S (fun v S1 => v = (.bool p.1) ∧ S1 = p.2) := by
  unfold J0 at h
  rcases ifc h with ⟨hc5, h⟩ | ⟨hc5, h⟩
  · refine q_cond_t e13 (.tmp rfl) hc5 ?_
    refine q_seq e14 ?_
    refine q_region e15 rfl ?_
    refine q_op (dst := some 6) rfl (fun _ ho => ok_assign ho (.bool _)) ?_
    refine hr_region_end ?_
    try dsimp only [HAct.put, List.set_cons_zero, List.set_cons_succ]
    cases h
    exact q_ret e16 at_.at_ rfl (res1 rfl rfl) ⟨rfl, rfl⟩
  · refine q_cond_f e13 (.tmp rfl) (bfalse hc5) ?_
    refine q_skipc e17 ?_
    refine q_seq e18 ?_
    refine q_region e19 rfl ?_
    refine q_op (dst := some 27) rfl (fun _ ho => ok_move ho (.tmp rfl)) ?_
    obtain ⟨p6, hp6, h⟩ := bindo h
    refine q_call (dst := some 28) rfl (.func _) (.cons (.tmp rfl) Evs.nil) (HInv.static book_New_int.at_ book_New_int.body (book_New_int.snd  hp6)) ?_
    rintro _ _ ⟨rfl, rfl⟩
    refine q_op (dst := some 26) rfl (fun _ ho => ok_move ho (.tmp rfl)) ?_
    refine q_op (dst := some 29) rfl (fun _ ho => ok_extract ho (.tmp rfl) rfl) ?_
    try dsimp only [HAct.put, List.set_cons_zero, List.set_cons_succ]
    refine q_op (dst := some 30) rfl (fun _ ho => ok_extract ho (.tmp rfl) rfl) ?_
    refine q_op (dst := some 7) rfl (fun _ ho => ok_assign ho (.tmp rfl)) ?_
    refine q_op (dst := some 8) rfl (fun _ ho => ok_assign ho (.tmp rfl)) ?_
    refine hr_region_end ?_
    try dsimp only [HAct.put, List.set_cons_zero, List.set_cons_succ]
    refine q_seq e20 ?_
    refine q_seq e21 ?_
    refine q_region e22 rfl ?_
    refine q_op (dst := some 31) rfl (fun _ ho => ok_move ho (.tmp rfl)) ?_
    refine q_op (dst := some 32) rfl (fun _ ho => ok_ibin ho (.tmp rfl) (.int _ _) rfl) ?_
    refine q_op (dst := some 33) rfl (fun _ ho => ok_move ho (.tmp rfl)) ?_
    rcases ifc h with ⟨hc7, h⟩ | ⟨hc7, h⟩
    · refine q_skip (dst := some 34) (t := 33) rfl rfl rfl (decide_eq_true hc7) ?_
      try dsimp only [HAct.put, List.set_cons_zero, List.set_cons_succ]
      refine q_skip (dst := some 35) (t := 33) rfl rfl rfl (decide_eq_true hc7) ?_
      refine q_op (dst := some 36) rfl (fun _ ho => ok_pick_tt ho (.tmp rfl) (decide_eq_true hc7) (.bool _)) ?_
      refine hr_region_end ?_
      try dsimp only [HAct.put, List.set_cons_zero, List.set_cons_succ]
      try dsimp only [HAct.put, List.set_cons_zero, List.set_cons_succ]
      exact J1_snd hD hH h
    · refine q_op_g (t := 33) (dst := some 34) rfl rfl rfl (decide_eq_false hc7) (fun _ ho => ok_move ho (.tmp rfl)) ?_
      try dsimp only [HAct.put, List.set_cons_zero, List.set_cons_succ]
      refine q_op_g (t := 33) (dst := some 35) rfl rfl rfl (decide_eq_false hc7) (fun _ ho => ok_ibin ho (.tmp rfl) (.int _ _) rfl) ?_
      refine q_op (dst := some 36) rfl (fun _ ho => ok_pick_ff ho (.tmp rfl) (decide_eq_false hc7) (.tmp rfl)) ?_
      refine hr_region_end ?_
      try dsimp only [HAct.put, List.set_cons_zero, List.set_cons_succ]
      try dsimp only [HAct.put, List.set_cons_zero, List.set_cons_succ]
      exact J1_snd hD hH h
def f (D : Dp) (H : Hd) (k : Nat) (x0 : Int) (x1 : Sl) (x2 : (List UInt8)) (S : HS) : Option ((Bool) × HS) :=
  (Option.bind (rollcalllaw02_awake.f D H k S) fun p1 =>
  (if (!p1.1) = true then
  some (false, p1.2) else
  (Option.bind (rollcalllaw02_great.f k x1 p1.2) fun p3 =>
  (if p3.1 = true then
  J0 D H k x0 x1 x2 true p3.2 else
  J0 D H k x0 x1 x2 (decide ((List.length x2 : Int) > 30)) p3.2))))
theorem snd {D : Dp} {H : Hd} {k : Nat} {x0 : Int} {x1 : Sl} {x2 : (List UInt8)} {S : HS} (hD : DSound Try.prog base W0 D) (hH : HSound Try.prog base W0 β0 H)  {p : (Bool) × HS} (h : f D H k x0 x1 x2 S = some p) : HCall Try.prog base W0 β0 5 [(.int .i64 x0), (Sl.hv x1), (.str x2)] S (fun v S1 => v = (.bool p.1) ∧ S1 = p.2) := by
  unfold f at h
  refine HCall.of_run at_.at_ body ?_
  show HRun Try.prog base W0 β0 5 none [.code c0] ⟨[(.int .i64 x0), (Sl.hv x1), (.str x2), .tup [], .tup [], .tup [], .tup [], .tup [], .tup [], .tup [], .tup [], .tup [], .tup [], .tup [], .tup [], .tup [], .tup [], .tup [], .tup [], .tup [], .tup [], .tup [], .tup [], .tup [], .tup [], .tup [], .tup [], .tup [], .tup [], .tup [], .tup [], .tup [], .tup [], .tup [], .tup [], .tup [], .tup [], .tup [], .tup [], .tup [], .tup [], .tup [], .tup [], .tup [], .tup [], .tup [], .tup [], .tup [], .tup [], .tup [], .tup [], .tup [], .tup [], .tup [], .tup [], .tup [], .tup [], .tup [], .tup [], .tup [], .tup [], .tup [], .tup [], .tup [], .tup [], .tup [], .tup [], .tup [], .tup [], .tup [], .tup [], .tup [], .tup [], .tup [], .tup [], .tup [], .tup [], .tup [], .tup [], .tup [], .tup [], .tup [], .tup [], .tup [], .tup [], .tup [], .tup [], .tup [], .tup [], .tup [], .tup [], .tup [], .tup [], .tup [], .tup [], .tup [], .tup [], .tup [], .tup [], .tup [], .tup [], .tup [], .tup [], .tup [], .tup [], .tup [], .tup [], .tup [], .tup [], .tup [], .tup [], .tup [], .tup [], .tup [], .tup [], .tup [], .tup [], .tup [], .tup [], .tup [], .tup [], .tup [], .tup [], .tup [], .tup [], .tup [], .tup [], .tup [], .tup [], .tup [], .tup [], .tup [], .tup [], .tup [], .tup [], .tup [], .tup [], .tup [], .tup [], .tup [], .tup [], .tup [], .tup [], .tup [], .tup [], .tup [], .tup [], .tup [], .tup [], .tup [], .tup [], .tup [], .tup [], .tup [], .tup [], .tup [], .tup [], .tup [], .tup [], .tup [], .tup [], .tup [], .tup [], .tup [], .tup [], .tup [], .tup [], .tup [], .tup [], .tup [], .tup [], .tup [], .tup [], .tup [], .tup [], .tup [], .tup [], .tup [], .tup [], .tup [], .tup [], .tup [], .tup [], .tup [], .tup [], .tup [], .tup [], .tup [], .tup []], []⟩ S _
  refine q_seq e0 ?_
  refine q_region e1 rfl ?_
  refine q_op (dst := some 6) rfl (fun _ ho => ok_assign ho (.bool _)) ?_
  refine hr_region_end ?_
  try dsimp only [HAct.put, List.set_cons_zero, List.set_cons_succ]
  refine q_seq e2 ?_
  refine q_seq e3 ?_
  refine q_region e4 rfl ?_
  obtain ⟨p1, hp1, h⟩ := bindo h
  refine q_call (dst := some 17) rfl (.func _) Evs.nil (HInv.static rollcalllaw02_awake.at_ rollcalllaw02_awake.body (rollcalllaw02_awake.snd hD hH hp1)) ?_
  rintro _ _ ⟨rfl, rfl⟩
  refine q_op (dst := some 18) rfl (fun _ ho => ok_not ho (.tmp rfl)) ?_
  refine hr_region_end ?_
  try dsimp only [HAct.put, List.set_cons_zero, List.set_cons_succ]
  rcases ifc h with ⟨hc2, h⟩ | ⟨hc2, h⟩
  · refine q_cond_t e5 (.tmp rfl) hc2 ?_
    refine q_seq e6 ?_
    refine q_region e7 rfl ?_
    refine q_op (dst := some 6) rfl (fun _ ho => ok_assign ho (.bool _)) ?_
    refine hr_region_end ?_
    try dsimp only [HAct.put, List.set_cons_zero, List.set_cons_succ]
    cases h
    exact q_ret e8 at_.at_ rfl (res1 rfl rfl) ⟨rfl, rfl⟩
  · refine q_cond_f e5 (.tmp rfl) (bfalse hc2) ?_
    refine q_skipc e9 ?_
    refine q_seq e10 ?_
    refine q_seq e11 ?_
    refine q_region e12 rfl ?_
    refine q_op (dst := some 19) rfl (fun _ ho => ok_move ho (.tmp rfl)) ?_
    obtain ⟨p3, hp3, h⟩ := bindo h
    refine q_call (dst := some 20) rfl (.func _) (.cons (.tmp rfl) Evs.nil) (HInv.static rollcalllaw02_great.at_ rollcalllaw02_great.body (rollcalllaw02_great.snd  hp3)) ?_
    rintro _ _ ⟨rfl, rfl⟩
    refine q_op (dst := some 21) rfl (fun _ ho => ok_move ho (.tmp rfl)) ?_
    rcases ifc h with ⟨hc4, h⟩ | ⟨hc4, h⟩
    · refine q_skip (dst := some 22) (t := 21) rfl rfl rfl hc4 ?_
      try dsimp only [HAct.put, List.set_cons_zero, List.set_cons_succ]
      refine q_skip (dst := some 23) (t := 21) rfl rfl rfl hc4 ?_
      refine q_skip (dst := some 24) (t := 21) rfl rfl rfl hc4 ?_
      refine q_op (dst := some 25) rfl (fun _ ho => ok_pick_tt ho (.tmp rfl) hc4 (.bool _)) ?_
      refine hr_region_end ?_
      try dsimp only [HAct.put, List.set_cons_zero, List.set_cons_succ]
      try dsimp only [HAct.put, List.set_cons_zero, List.set_cons_succ]
      exact J0_snd hD hH h
    · refine q_op_g (t := 21) (dst := some 22) rfl rfl rfl (bfalse hc4) (fun _ ho => ok_move ho (.tmp rfl)) ?_
      try dsimp only [HAct.put, List.set_cons_zero, List.set_cons_succ]
      refine q_op_g (t := 21) (dst := some 23) rfl rfl rfl (bfalse hc4) (fun _ ho => ok_len_str ho rfl tu9 (.tmp rfl)) ?_
      refine q_op_g (t := 21) (dst := some 24) rfl rfl rfl (bfalse hc4) (fun _ ho => ok_ibin ho (.tmp rfl) (.int _ _) rfl) ?_
      refine q_op (dst := some 25) rfl (fun _ ho => ok_pick_ff ho (.tmp rfl) (bfalse hc4) (.tmp rfl)) ?_
      refine hr_region_end ?_
      try dsimp only [HAct.put, List.set_cons_zero, List.set_cons_succ]
      try dsimp only [HAct.put, List.set_cons_zero, List.set_cons_succ]
      exact J0_snd hD hH h
end
end rollcalllaw02_BookPlays
section
variable {base : Nat} {W0 : World} {β0 : Bt}
def call_59 (D : Dp) (H : Hd) (k : Nat) (vs : List HV) (S : HS) : Option (HV × HS) :=
  Option.bind (args2 vs) fun a =>
  Option.bind (dA2 a.1) fun p0 =>
  Option.bind (dS p0.1) fun p1 =>
  Option.bind (dI .i64 p0.2) fun p2 =>
  Option.bind (dS a.2) fun p3 =>
  Option.bind (book_Book_int_at_1.f k p1 p2 p3 S) fun q =>
  some ((.int .i64 q.1), q.2)
theorem call_59_snd {D : Dp} {H : Hd} {k : Nat} (hD : DSound Try.prog base W0 D) (hH : HSound Try.prog base W0 β0 H) {vs : List HV} {S : HS} {p : HV × HS} (h : call_59 D H k vs S = some p) : HCall Try.prog base W0 β0 59 vs S (fun v1 S1 => v1 = p.1 ∧ S1 = p.2) := by
  unfold call_59 at h
  obtain ⟨a, ha, h⟩ := bindo h
  obtain ⟨p0, hp0, h⟩ := bindo h
  obtain ⟨p1, hp1, h⟩ := bindo h
  obtain ⟨p2, hp2, h⟩ := bindo h
  obtain ⟨p3, hp3, h⟩ := bindo h
  obtain ⟨q, hq, h⟩ := bindo h
  rw [args2_out ha, dA2_out hp0, dS_out hp1, dI_out hp2, dS_out hp3]
  cases h
  exact book_Book_int_at_1.snd hq
def call_69 (D : Dp) (H : Hd) (k : Nat) (vs : List HV) (S : HS) : Option (HV × HS) :=
  Option.bind (args2 vs) fun a =>
  Option.bind (dF a.1) fun p0 =>
  Option.bind (dP a.2) fun p1 =>
  Option.bind (book_told_int_1.f D H k p0 p1 S) fun q =>
  some (.tup [], q.2)
theorem call_69_snd {D : Dp} {H : Hd} {k : Nat} (hD : DSound Try.prog base W0 D) (hH : HSound Try.prog base W0 β0 H) {vs : List HV} {S : HS} {p : HV × HS} (h : call_69 D H k vs S = some p) : HCall Try.prog base W0 β0 69 vs S (fun v1 S1 => v1 = p.1 ∧ S1 = p.2) := by
  unfold call_69 at h
  obtain ⟨a, ha, h⟩ := bindo h
  obtain ⟨p0, hp0, h⟩ := bindo h
  obtain ⟨p1, hp1, h⟩ := bindo h
  obtain ⟨q, hq, h⟩ := bindo h
  rw [args2_out ha, dF_out hp0, dP_out hp1]
  cases h
  exact book_told_int_1.snd hD hH hq
def call_64 (D : Dp) (H : Hd) (k : Nat) (vs : List HV) (S : HS) : Option (HV × HS) :=
  Option.bind (args1 vs) fun a =>
  Option.bind (dF a) fun p0 =>
  Option.bind (book_Book_int_All_1.f p0) fun q =>
  some (.tup [], S)
theorem call_64_snd {D : Dp} {H : Hd} {k : Nat} (hD : DSound Try.prog base W0 D) (hH : HSound Try.prog base W0 β0 H) {vs : List HV} {S : HS} {p : HV × HS} (h : call_64 D H k vs S = some p) : HCall Try.prog base W0 β0 64 vs S (fun v1 S1 => v1 = p.1 ∧ S1 = p.2) := by
  unfold call_64 at h
  obtain ⟨a, ha, h⟩ := bindo h
  obtain ⟨p0, hp0, h⟩ := bindo h
  obtain ⟨q, hq, h⟩ := bindo h
  rw [args1_out ha, dF_out hp0]
  cases h
  exact book_Book_int_All_1.snd hq
def disp (k : Nat) : Nat → Dp
  | 0 => fun _ _ _ _ => none
  | n + 1 => fun H fv vs S => match fv with
    | .fn (.yield l) [] [] => Option.bind (H l) fun r => r vs S
    | .fn (.func f) xs ys => if f = 59 then call_59 (disp k n) H k (xs ++ vs ++ ys) S else if f = 69 then call_69 (disp k n) H k (xs ++ vs ++ ys) S else if f = 64 then call_64 (disp k n) H k (xs ++ vs ++ ys) S else none
    | _ => none
theorem disp_func {k n : Nat} {H : Hd} {f : Nat} {xs ys vs : List HV} {S : HS} : disp k (n + 1) H (.fn (.func f) xs ys) vs S = (if f = 59 then call_59 (disp k n) H k (xs ++ vs ++ ys) S else if f = 69 then call_69 (disp k n) H k (xs ++ vs ++ ys) S else if f = 64 then call_64 (disp k n) H k (xs ++ vs ++ ys) S else none) := rfl
theorem disp_yield {k n : Nat} {H : Hd} {l : Nat} {vs : List HV} {S : HS} : disp k (n + 1) H (.fn (.yield l) [] []) vs S = Option.bind (H l) fun r => r vs S := rfl
theorem disp_snd {k : Nat} : ∀ n, DSound Try.prog base W0 (disp k n) := by
  intro n
  induction n with
  | zero => intro _ _ _ _ _ _ _ _ h; cases h
  | succ n ih =>
    intro β0 H hH fv vs S v S' h
    unfold disp at h
    split at h
    · obtain ⟨r, hr, h⟩ := bindo h
      exact hH _ _ hr _ _ _ _ h
    · skip
      rcases ifc h with ⟨hf, h⟩ | ⟨hf, h⟩
      · subst hf; exact HInv.func book_Book_int_at_1.at_ book_Book_int_at_1.body (call_59_snd (k := k) ih hH h)
      rcases ifc h with ⟨hf, h⟩ | ⟨hf, h⟩
      · subst hf; exact HInv.func book_told_int_1.at_ book_told_int_1.body (call_69_snd (k := k) ih hH h)
      rcases ifc h with ⟨hf, h⟩ | ⟨hf, h⟩
      · subst hf; exact HInv.func book_Book_int_All_1.at_ book_Book_int_All_1.body (call_64_snd (k := k) ih hH h)
      cases h
    · cases h
end
end Go.Proofs.Ytlfdaflngmkldaa.X
