/- Functions of the program, each as a Lean function over the layer HL: a call answers what the Lean function answers, where it answers. -/
import Derived.Test.YtlfdaflngmkldaaProg
import Derived.Test.YtlfdaflngmkldaaBkStay2
namespace Go.Proofs.Ytlfdaflngmkldaa.X
open Go.Proofs.Ytlfdaflngmkldaa.HL
set_option linter.unusedVariables false
set_option linter.unusedSimpArgs false
set_option maxRecDepth 20000
set_option maxHeartbeats 4000000
namespace rollcalllaw02_BookStays
abbrev id : Nat := 4
theorem at_ : FnAt Try.prog 4 Try.f4 := ⟨Try.func4, by kernel_rfl⟩
noncomputable def c0 : Code := (Try.f4.body).getD .skip
noncomputable def c1 : Code := match c0 with | .seq x _ => x | _ => .skip
noncomputable def c2 : Code := match c0 with | .seq _ x => x | _ => .skip
noncomputable def c3 : Code := match c2 with | .seq x _ => x | _ => .skip
noncomputable def c4 : Code := match c3 with | .seq x _ => x | _ => .skip
noncomputable def c5 : Code := match c3 with | .seq _ x => x | _ => .skip
noncomputable def c6 : Code := match c5 with | .cond _ x _ => x | _ => .skip
noncomputable def c7 : Code := match c6 with | .seq x _ => x | _ => .skip
noncomputable def c8 : Code := match c6 with | .seq _ x => x | _ => .skip
noncomputable def c9 : Code := match c5 with | .cond _ _ x => x | _ => .skip
noncomputable def c10 : Code := match c2 with | .seq _ x => x | _ => .skip
noncomputable def c11 : Code := match c10 with | .seq x _ => x | _ => .skip
noncomputable def c12 : Code := match c11 with | .seq x _ => x | _ => .skip
noncomputable def c13 : Code := match c11 with | .seq _ x => x | _ => .skip
noncomputable def c14 : Code := match c13 with | .cond _ x _ => x | _ => .skip
noncomputable def c15 : Code := match c14 with | .seq x _ => x | _ => .skip
noncomputable def c16 : Code := match c14 with | .seq _ x => x | _ => .skip
noncomputable def c17 : Code := match c13 with | .cond _ _ x => x | _ => .skip
noncomputable def c18 : Code := match c10 with | .seq _ x => x | _ => .skip
noncomputable def c19 : Code := match c18 with | .seq x _ => x | _ => .skip
noncomputable def c20 : Code := match c18 with | .seq _ x => x | _ => .skip
noncomputable def c21 : Code := match c20 with | .seq x _ => x | _ => .skip
noncomputable def c22 : Code := match c21 with | .seq x _ => x | _ => .skip
noncomputable def c23 : Code := match c21 with | .seq _ x => x | _ => .skip
noncomputable def c24 : Code := match c23 with | .cond _ x _ => x | _ => .skip
noncomputable def c25 : Code := match c24 with | .seq x _ => x | _ => .skip
noncomputable def c26 : Code := match c24 with | .seq _ x => x | _ => .skip
noncomputable def c27 : Code := match c23 with | .cond _ _ x => x | _ => .skip
noncomputable def c28 : Code := match c20 with | .seq _ x => x | _ => .skip
noncomputable def c29 : Code := match c28 with | .seq x _ => x | _ => .skip
noncomputable def c30 : Code := match c29 with | .seq x _ => x | _ => .skip
noncomputable def c31 : Code := match c29 with | .seq _ x => x | _ => .skip
noncomputable def c32 : Code := match c31 with | .block _ x => x | _ => .skip
noncomputable def c33 : Code := match c32 with | .loop x => x | _ => .skip
noncomputable def c34 : Code := match c33 with | .seq x _ => x | _ => .skip
noncomputable def c35 : Code := match c34 with | .seq x _ => x | _ => .skip
noncomputable def c36 : Code := match c34 with | .seq _ x => x | _ => .skip
noncomputable def c37 : Code := match c36 with | .cond _ x _ => x | _ => .skip
noncomputable def c38 : Code := match c36 with | .cond _ _ x => x | _ => .skip
noncomputable def c39 : Code := match c33 with | .seq _ x => x | _ => .skip
noncomputable def c40 : Code := match c39 with | .seq x _ => x | _ => .skip
noncomputable def c41 : Code := match c40 with | .block _ x => x | _ => .skip
noncomputable def c42 : Code := match c41 with | .seq x _ => x | _ => .skip
noncomputable def c43 : Code := match c42 with | .seq x _ => x | _ => .skip
noncomputable def c44 : Code := match c42 with | .seq _ x => x | _ => .skip
noncomputable def c45 : Code := match c44 with | .cond _ x _ => x | _ => .skip
noncomputable def c46 : Code := match c45 with | .seq x _ => x | _ => .skip
noncomputable def c47 : Code := match c45 with | .seq _ x => x | _ => .skip
noncomputable def c48 : Code := match c44 with | .cond _ _ x => x | _ => .skip
noncomputable def c49 : Code := match c41 with | .seq _ x => x | _ => .skip
noncomputable def c50 : Code := match c39 with | .seq _ x => x | _ => .skip
noncomputable def c51 : Code := match c28 with | .seq _ x => x | _ => .skip
noncomputable def c52 : Code := match c51 with | .seq x _ => x | _ => .skip
noncomputable def c53 : Code := match c51 with | .seq _ x => x | _ => .skip
noncomputable def c54 : Code := match c53 with | .seq x _ => x | _ => .skip
noncomputable def c55 : Code := match c53 with | .seq _ x => x | _ => .skip
noncomputable def c56 : Code := match c55 with | .seq x _ => x | _ => .skip
noncomputable def c57 : Code := match c56 with | .seq x _ => x | _ => .skip
noncomputable def c58 : Code := match c56 with | .seq _ x => x | _ => .skip
noncomputable def c59 : Code := match c58 with | .cond _ x _ => x | _ => .skip
noncomputable def c60 : Code := match c59 with | .seq x _ => x | _ => .skip
noncomputable def c61 : Code := match c59 with | .seq _ x => x | _ => .skip
noncomputable def c62 : Code := match c58 with | .cond _ _ x => x | _ => .skip
noncomputable def c63 : Code := match c55 with | .seq _ x => x | _ => .skip
noncomputable def c64 : Code := match c63 with | .seq x _ => x | _ => .skip
noncomputable def c65 : Code := match c63 with | .seq _ x => x | _ => .skip
noncomputable def c66 : Code := match c65 with | .seq x _ => x | _ => .skip
noncomputable def c67 : Code := match c65 with | .seq _ x => x | _ => .skip
noncomputable def c68 : Code := match c67 with | .seq x _ => x | _ => .skip
noncomputable def c69 : Code := match c67 with | .seq _ x => x | _ => .skip
noncomputable def c70 : Code := match c69 with | .seq x _ => x | _ => .skip
noncomputable def c71 : Code := match c69 with | .seq _ x => x | _ => .skip
noncomputable def c72 : Code := match c71 with | .seq x _ => x | _ => .skip
noncomputable def c73 : Code := match c72 with | .seq x _ => x | _ => .skip
noncomputable def c74 : Code := match c72 with | .seq _ x => x | _ => .skip
noncomputable def c75 : Code := match c74 with | .block _ x => x | _ => .skip
noncomputable def c76 : Code := match c75 with | .rangeFunc _ _ x _ => x | _ => .skip
noncomputable def c77 : Code := match c76 with | .seq x _ => x | _ => .skip
noncomputable def c78 : Code := match c76 with | .seq _ x => x | _ => .skip
noncomputable def c79 : Code := match c75 with | .rangeFunc _ _ _ x => x | _ => .skip
noncomputable def c80 : Code := match c79 with | .block _ x => x | _ => .skip
noncomputable def c81 : Code := match c80 with | .seq x _ => x | _ => .skip
noncomputable def c82 : Code := match c80 with | .seq _ x => x | _ => .skip
noncomputable def c83 : Code := match c82 with | .seq x _ => x | _ => .skip
noncomputable def c84 : Code := match c82 with | .seq _ x => x | _ => .skip
noncomputable def c85 : Code := match c84 with | .seq x _ => x | _ => .skip
noncomputable def c86 : Code := match c84 with | .seq _ x => x | _ => .skip
noncomputable def c87 : Code := match c86 with | .seq x _ => x | _ => .skip
noncomputable def c88 : Code := match c86 with | .seq _ x => x | _ => .skip
noncomputable def c89 : Code := match c88 with | .seq x _ => x | _ => .skip
noncomputable def c90 : Code := match c88 with | .seq _ x => x | _ => .skip
noncomputable def c91 : Code := match c90 with | .cond _ x _ => x | _ => .skip
noncomputable def c92 : Code := match c91 with | .seq x _ => x | _ => .skip
noncomputable def c93 : Code := match c91 with | .seq _ x => x | _ => .skip
noncomputable def c94 : Code := match c90 with | .cond _ _ x => x | _ => .skip
noncomputable def c95 : Code := match c71 with | .seq _ x => x | _ => .skip
noncomputable def c96 : Code := match c95 with | .seq x _ => x | _ => .skip
noncomputable def c97 : Code := match c95 with | .seq _ x => x | _ => .skip
theorem e0 : c0 = .seq c1 c2 := by kernel_rfl
noncomputable def r1 : Array Oper := match c1 with | .region _ x _ => x | _ => #[]
theorem e1 : c1 = .region 0 r1 false := by kernel_rfl
theorem e2 : c2 = .seq c3 c10 := by kernel_rfl
theorem e3 : c3 = .seq c4 c5 := by kernel_rfl
noncomputable def r4 : Array Oper := match c4 with | .region _ x _ => x | _ => #[]
theorem e4 : c4 = .region 1 r4 false := by kernel_rfl
theorem e5 : c5 = .cond (.tmp 16) c6 c9 := by kernel_rfl
theorem e6 : c6 = .seq c7 c8 := by kernel_rfl
noncomputable def r7 : Array Oper := match c7 with | .region _ x _ => x | _ => #[]
theorem e7 : c7 = .region 2 r7 false := by kernel_rfl
theorem e8 : c8 = .ret := by kernel_rfl
theorem e9 : c9 = .skip := by kernel_rfl
theorem e10 : c10 = .seq c11 c18 := by kernel_rfl
theorem e11 : c11 = .seq c12 c13 := by kernel_rfl
noncomputable def r12 : Array Oper := match c12 with | .region _ x _ => x | _ => #[]
theorem e12 : c12 = .region 3 r12 false := by kernel_rfl
theorem e13 : c13 = .cond (.tmp 24) c14 c17 := by kernel_rfl
theorem e14 : c14 = .seq c15 c16 := by kernel_rfl
noncomputable def r15 : Array Oper := match c15 with | .region _ x _ => x | _ => #[]
theorem e15 : c15 = .region 4 r15 false := by kernel_rfl
theorem e16 : c16 = .ret := by kernel_rfl
theorem e17 : c17 = .skip := by kernel_rfl
theorem e18 : c18 = .seq c19 c20 := by kernel_rfl
noncomputable def r19 : Array Oper := match c19 with | .region _ x _ => x | _ => #[]
theorem e19 : c19 = .region 5 r19 false := by kernel_rfl
theorem e20 : c20 = .seq c21 c28 := by kernel_rfl
theorem e21 : c21 = .seq c22 c23 := by kernel_rfl
noncomputable def r22 : Array Oper := match c22 with | .region _ x _ => x | _ => #[]
theorem e22 : c22 = .region 6 r22 false := by kernel_rfl
theorem e23 : c23 = .cond (.tmp 30) c24 c27 := by kernel_rfl
theorem e24 : c24 = .seq c25 c26 := by kernel_rfl
noncomputable def r25 : Array Oper := match c25 with | .region _ x _ => x | _ => #[]
theorem e25 : c25 = .region 7 r25 false := by kernel_rfl
theorem e26 : c26 = .ret := by kernel_rfl
theorem e27 : c27 = .skip := by kernel_rfl
theorem e28 : c28 = .seq c29 c51 := by kernel_rfl
theorem e29 : c29 = .seq c30 c31 := by kernel_rfl
noncomputable def r30 : Array Oper := match c30 with | .region _ x _ => x | _ => #[]
theorem e30 : c30 = .region 8 r30 false := by kernel_rfl
theorem e31 : c31 = .block 0 c32 := by kernel_rfl
theorem e32 : c32 = .loop c33 := by kernel_rfl
theorem e33 : c33 = .seq c34 c39 := by kernel_rfl
theorem e34 : c34 = .seq c35 c36 := by kernel_rfl
noncomputable def r35 : Array Oper := match c35 with | .region _ x _ => x | _ => #[]
theorem e35 : c35 = .region 9 r35 false := by kernel_rfl
theorem e36 : c36 = .cond (.tmp 34) c37 c38 := by kernel_rfl
theorem e37 : c37 = .skip := by kernel_rfl
theorem e38 : c38 = .exit 0 := by kernel_rfl
theorem e39 : c39 = .seq c40 c50 := by kernel_rfl
theorem e40 : c40 = .block 1 c41 := by kernel_rfl
theorem e41 : c41 = .seq c42 c49 := by kernel_rfl
theorem e42 : c42 = .seq c43 c44 := by kernel_rfl
noncomputable def r43 : Array Oper := match c43 with | .region _ x _ => x | _ => #[]
theorem e43 : c43 = .region 11 r43 false := by kernel_rfl
theorem e44 : c44 = .cond (.tmp 42) c45 c48 := by kernel_rfl
theorem e45 : c45 = .seq c46 c47 := by kernel_rfl
noncomputable def r46 : Array Oper := match c46 with | .region _ x _ => x | _ => #[]
theorem e46 : c46 = .region 12 r46 false := by kernel_rfl
theorem e47 : c47 = .ret := by kernel_rfl
theorem e48 : c48 = .skip := by kernel_rfl
noncomputable def r49 : Array Oper := match c49 with | .region _ x _ => x | _ => #[]
theorem e49 : c49 = .region 13 r49 true := by kernel_rfl
noncomputable def r50 : Array Oper := match c50 with | .region _ x _ => x | _ => #[]
theorem e50 : c50 = .region 10 r50 false := by kernel_rfl
theorem e51 : c51 = .seq c52 c53 := by kernel_rfl
noncomputable def r52 : Array Oper := match c52 with | .region _ x _ => x | _ => #[]
theorem e52 : c52 = .region 14 r52 false := by kernel_rfl
theorem e53 : c53 = .seq c54 c55 := by kernel_rfl
noncomputable def r54 : Array Oper := match c54 with | .region _ x _ => x | _ => #[]
theorem e54 : c54 = .region 15 r54 false := by kernel_rfl
theorem e55 : c55 = .seq c56 c63 := by kernel_rfl
theorem e56 : c56 = .seq c57 c58 := by kernel_rfl
noncomputable def r57 : Array Oper := match c57 with | .region _ x _ => x | _ => #[]
theorem e57 : c57 = .region 16 r57 false := by kernel_rfl
theorem e58 : c58 = .cond (.tmp 58) c59 c62 := by kernel_rfl
theorem e59 : c59 = .seq c60 c61 := by kernel_rfl
noncomputable def r60 : Array Oper := match c60 with | .region _ x _ => x | _ => #[]
theorem e60 : c60 = .region 17 r60 false := by kernel_rfl
theorem e61 : c61 = .ret := by kernel_rfl
theorem e62 : c62 = .skip := by kernel_rfl
theorem e63 : c63 = .seq c64 c65 := by kernel_rfl
noncomputable def r64 : Array Oper := match c64 with | .region _ x _ => x | _ => #[]
theorem e64 : c64 = .region 18 r64 false := by kernel_rfl
theorem e65 : c65 = .seq c66 c67 := by kernel_rfl
noncomputable def r66 : Array Oper := match c66 with | .region _ x _ => x | _ => #[]
theorem e66 : c66 = .region 19 r66 false := by kernel_rfl
theorem e67 : c67 = .seq c68 c69 := by kernel_rfl
noncomputable def r68 : Array Oper := match c68 with | .region _ x _ => x | _ => #[]
theorem e68 : c68 = .region 20 r68 false := by kernel_rfl
theorem e69 : c69 = .seq c70 c71 := by kernel_rfl
noncomputable def r70 : Array Oper := match c70 with | .region _ x _ => x | _ => #[]
theorem e70 : c70 = .region 21 r70 false := by kernel_rfl
theorem e71 : c71 = .seq c72 c95 := by kernel_rfl
theorem e72 : c72 = .seq c73 c74 := by kernel_rfl
noncomputable def r73 : Array Oper := match c73 with | .region _ x _ => x | _ => #[]
theorem e73 : c73 = .region 22 r73 false := by kernel_rfl
theorem e74 : c74 = .block 2 c75 := by kernel_rfl
theorem e75 : c75 = .rangeFunc (.tmp 62) #[63, 64] c76 c79 := by kernel_rfl
theorem e76 : c76 = .seq c77 c78 := by kernel_rfl
noncomputable def r77 : Array Oper := match c77 with | .region _ x _ => x | _ => #[]
theorem e77 : c77 = .region 23 r77 false := by kernel_rfl
noncomputable def r78 : Array Oper := match c78 with | .region _ x _ => x | _ => #[]
theorem e78 : c78 = .region 24 r78 false := by kernel_rfl
theorem e79 : c79 = .block 3 c80 := by kernel_rfl
theorem e80 : c80 = .seq c81 c82 := by kernel_rfl
noncomputable def r81 : Array Oper := match c81 with | .region _ x _ => x | _ => #[]
theorem e81 : c81 = .region 25 r81 false := by kernel_rfl
theorem e82 : c82 = .seq c83 c84 := by kernel_rfl
noncomputable def r83 : Array Oper := match c83 with | .region _ x _ => x | _ => #[]
theorem e83 : c83 = .region 26 r83 false := by kernel_rfl
theorem e84 : c84 = .seq c85 c86 := by kernel_rfl
noncomputable def r85 : Array Oper := match c85 with | .region _ x _ => x | _ => #[]
theorem e85 : c85 = .region 27 r85 false := by kernel_rfl
theorem e86 : c86 = .seq c87 c88 := by kernel_rfl
noncomputable def r87 : Array Oper := match c87 with | .region _ x _ => x | _ => #[]
theorem e87 : c87 = .region 28 r87 false := by kernel_rfl
theorem e88 : c88 = .seq c89 c90 := by kernel_rfl
noncomputable def r89 : Array Oper := match c89 with | .region _ x _ => x | _ => #[]
theorem e89 : c89 = .region 29 r89 false := by kernel_rfl
theorem e90 : c90 = .cond (.tmp 89) c91 c94 := by kernel_rfl
theorem e91 : c91 = .seq c92 c93 := by kernel_rfl
noncomputable def r92 : Array Oper := match c92 with | .region _ x _ => x | _ => #[]
theorem e92 : c92 = .region 30 r92 false := by kernel_rfl
theorem e93 : c93 = .ret := by kernel_rfl
theorem e94 : c94 = .skip := by kernel_rfl
theorem e95 : c95 = .seq c96 c97 := by kernel_rfl
noncomputable def r96 : Array Oper := match c96 with | .region _ x _ => x | _ => #[]
theorem e96 : c96 = .region 31 r96 false := by kernel_rfl
theorem e97 : c97 = .ret := by kernel_rfl
theorem body : Try.f4.body = some c0 := by kernel_rfl
section
variable {base : Nat} {W0 : World} {β0 : Bt}
def J5 (D : Dp) (H : Hd) (k : Nat) (l : Nat) (y4 : (Option HA)) (y5 : (Option HA)) (y8 : (Option HA)) (y10 : (Option HA)) (y11 : (Option HA)) (y12 : (Option HA)) (y13 : (List UInt8)) (y80 : Bool) (S : HS) : Option (HV × HS) :=
  (Option.bind (y12) fun p72 =>
  (Option.bind (HS.sets S p72 [(.bool y80)]) fun p73 =>
  (Option.bind (y5) fun p74 =>
  (Option.bind (HS.ldP p73 p74) fun p75 =>
  (Option.bind (book_Book_string_Delete.f D H k p75 y13 p73) fun p76 =>
  (Option.bind (y11) fun p77 =>
  (Option.bind (HS.sets p76.2 p77 [(.str y13)]) fun p78 =>
  (Option.bind (y10) fun p79 =>
  (Option.bind (HS.ldI p78 .i64 p79) fun p80 =>
  (Option.bind (y10) fun p81 =>
  (Option.bind (HS.sets p78 p81 [(.int .i64 (w64 (p80 + 1)))]) fun p82 =>
  (Option.bind (y10) fun p83 =>
  (Option.bind (HS.ldI p82 .i64 p83) fun p84 =>
  (Option.bind (y8) fun p85 =>
  (Option.bind (HS.ldI p82 .i64 p85) fun p86 =>
  (if p84 > p86 then
  (Option.bind (y4) fun p88 =>
  (Option.bind (HS.sets p82 p88 [(.bool false)]) fun p89 =>
  (HS.endr p89 l (some .ret)))) else
  (HS.endr p82 l none)))))))))))))))))
theorem J5_snd {D : Dp} {H : Hd} {k : Nat} {l : Nat} (hD : DSound Try.prog base W0 D) (hH : HSound Try.prog base W0 β0 H)  {y4 : (Option HA)} {y5 : (Option HA)} {y8 : (Option HA)} {y10 : (Option HA)} {y11 : (Option HA)} {y12 : (Option HA)} {y13 : (List UInt8)} {y80 : Bool} {S : HS} {p : HV × HS} {g0 g1 g2 g3 g6 g7 g9 g14 g15 g16 g17 g18 g19 g20 g21 g22 g23 g24 g25 g26 g27 g28 g29 g30 g31 g32 g33 g34 g35 g36 g37 g38 g39 g40 g41 g42 g43 g44 g45 g46 g47 g48 g49 g50 g51 g52 g53 g54 g55 g56 g57 g58 g59 g60 g61 g62 g63 g64 g65 g66 g67 g68 g69 g70 g71 g72 g73 g74 g75 g76 g77 g78 g79 g81 g82 g83 g84 g85 g86 g87 g88 g89 g90 g91 g92 g93 g94 g95 g96 g97 g98 g99 g100 : HV} (h : J5 D H k l y4 y5 y8 y10 y11 y12 y13 y80 S = some p) : HRun Try.prog base W0 β0 4 (some l) [.inRegion r81 [16], .code c82, .inBlock 3] ⟨[g0, g1, g2, g3, (.ptr y4), (.ptr y5), g6, g7, (.ptr y8), g9, (.ptr y10), (.ptr y11), (.ptr y12), (.str y13), g14, g15, g16, g17, g18, g19, g20, g21, g22, g23, g24, g25, g26, g27, g28, g29, g30, g31, g32, g33, g34, g35, g36, g37, g38, g39, g40, g41, g42, g43, g44, g45, g46, g47, g48, g49, g50, g51, g52, g53, g54, g55, g56, g57, g58, g59, g60, g61, g62, g63, g64, g65, g66, g67, g68, g69, g70, g71, g72, g73, g74, g75, g76, g77, g78, g79, (.bool y80), g81, g82, g83, g84, g85, g86, g87, g88, g89, g90, g91, g92, g93, g94, g95, g96, g97, g98, g99, g100], []⟩ S (fun v S1 => v = p.1 ∧ S1 = p.2) := by
  unfold J5 at h
  obtain ⟨p72, hp72, h⟩ := bindo h
  obtain ⟨p73, hp73, h⟩ := bindo h
  refine q_op (dst := none) rfl (fun _ ho => ok_store_s (v := (.bool y80)) ho sz4 (.tmp rfl) hp72 (.tmp rfl) rfl hp73) ?_
  refine hr_region_end ?_
  try dsimp only [HAct.put, List.set_cons_zero, List.set_cons_succ]
  refine q_seq e82 ?_
  refine q_region e83 rfl ?_
  obtain ⟨p74, hp74, h⟩ := bindo h
  obtain ⟨p75, hp75, h⟩ := bindo h
  refine q_op (dst := some 81) rfl (fun _ ho => ok_load_s ho sc33 (.tmp rfl) hp74 (ldP_out hp75)) ?_
  refine q_op (dst := some 82) rfl (fun _ ho => ok_move ho (.tmp rfl)) ?_
  obtain ⟨p76, hp76, h⟩ := bindo h
  refine q_call (dst := some 83) rfl (.func _) (.cons (.tmp rfl) (.cons (.tmp rfl) Evs.nil)) (HInv.static book_Book_string_Delete.at_ book_Book_string_Delete.body (book_Book_string_Delete.snd hD hH hp76)) ?_
  rintro _ _ ⟨rfl, rfl⟩
  refine hr_region_end ?_
  try dsimp only [HAct.put, List.set_cons_zero, List.set_cons_succ]
  refine q_seq e84 ?_
  refine q_region e85 rfl ?_
  refine q_op (dst := some 84) rfl (fun _ ho => ok_move ho (.tmp rfl)) ?_
  obtain ⟨p77, hp77, h⟩ := bindo h
  obtain ⟨p78, hp78, h⟩ := bindo h
  refine q_op (dst := none) rfl (fun _ ho => ok_store_s (v := (.str y13)) ho sz9 (.tmp rfl) hp77 (.tmp rfl) rfl hp78) ?_
  refine hr_region_end ?_
  try dsimp only [HAct.put, List.set_cons_zero, List.set_cons_succ]
  refine q_seq e86 ?_
  refine q_region e87 rfl ?_
  obtain ⟨p79, hp79, h⟩ := bindo h
  obtain ⟨p80, hp80, h⟩ := bindo h
  refine q_op (dst := some 85) rfl (fun _ ho => ok_load_s ho sc3 (.tmp rfl) hp79 (ldI_out hp80)) ?_
  refine q_op (dst := some 86) rfl (fun _ ho => ok_ibin ho (.tmp rfl) (.int _ _) rfl) ?_
  obtain ⟨p81, hp81, h⟩ := bindo h
  obtain ⟨p82, hp82, h⟩ := bindo h
  refine q_op (dst := none) rfl (fun _ ho => ok_store_s (v := (.int .i64 (w64 (p80 + 1)))) ho sz3 (.tmp rfl) hp81 (.tmp rfl) rfl hp82) ?_
  refine hr_region_end ?_
  try dsimp only [HAct.put, List.set_cons_zero, List.set_cons_succ]
  refine q_seq e88 ?_
  refine q_region e89 rfl ?_
  obtain ⟨p83, hp83, h⟩ := bindo h
  obtain ⟨p84, hp84, h⟩ := bindo h
  refine q_op (dst := some 87) rfl (fun _ ho => ok_load_s ho sc3 (.tmp rfl) hp83 (ldI_out hp84)) ?_
  obtain ⟨p85, hp85, h⟩ := bindo h
  obtain ⟨p86, hp86, h⟩ := bindo h
  refine q_op (dst := some 88) rfl (fun _ ho => ok_load_s ho sc3 (.tmp rfl) hp85 (ldI_out hp86)) ?_
  refine q_op (dst := some 89) rfl (fun _ ho => ok_ibin ho (.tmp rfl) (.tmp rfl) rfl) ?_
  refine hr_region_end ?_
  try dsimp only [HAct.put, List.set_cons_zero, List.set_cons_succ]
  rcases ifc h with ⟨hc87, h⟩ | ⟨hc87, h⟩
  · refine q_cond_t e90 (.tmp rfl) (decide_eq_true hc87) ?_
    refine q_seq e91 ?_
    refine q_region e92 rfl ?_
    obtain ⟨p88, hp88, h⟩ := bindo h
    obtain ⟨p89, hp89, h⟩ := bindo h
    refine q_op (dst := none) rfl (fun _ ho => ok_store_s (v := (.bool false)) ho sz4 (.tmp rfl) hp88 (.bool _) rfl hp89) ?_
    refine hr_region_end ?_
    try dsimp only [HAct.put, List.set_cons_zero, List.set_cons_succ]
    exact q_round_ret e93 h ⟨rfl, rfl⟩
  · refine q_cond_f e90 (.tmp rfl) (decide_eq_false hc87) ?_
    refine q_skipc e94 ?_
    refine hr_inBlock ?_
    exact q_round_end h ⟨rfl, rfl⟩
def J4 (D : Dp) (H : Hd) (k : Nat) (l : Nat) (y4 : (Option HA)) (y5 : (Option HA)) (y8 : (Option HA)) (y10 : (Option HA)) (y11 : (Option HA)) (y12 : (Option HA)) (y13 : (List UInt8)) (y71 : Bool) (y79 : Bool) (S : HS) : Option (HV × HS) :=
  (if y71 = true then
  J5 D H k l y4 y5 y8 y10 y11 y12 y13 y79 S else
  J5 D H k l y4 y5 y8 y10 y11 y12 y13 false S)
theorem J4_snd {D : Dp} {H : Hd} {k : Nat} {l : Nat} (hD : DSound Try.prog base W0 D) (hH : HSound Try.prog base W0 β0 H)  {y4 : (Option HA)} {y5 : (Option HA)} {y8 : (Option HA)} {y10 : (Option HA)} {y11 : (Option HA)} {y12 : (Option HA)} {y13 : (List UInt8)} {y71 : Bool} {y79 : Bool} {S : HS} {p : HV × HS} {g0 g1 g2 g3 g6 g7 g9 g14 g15 g16 g17 g18 g19 g20 g21 g22 g23 g24 g25 g26 g27 g28 g29 g30 g31 g32 g33 g34 g35 g36 g37 g38 g39 g40 g41 g42 g43 g44 g45 g46 g47 g48 g49 g50 g51 g52 g53 g54 g55 g56 g57 g58 g59 g60 g61 g62 g63 g64 g65 g66 g67 g68 g69 g70 g72 g73 g74 g75 g76 g77 g78 g80 g81 g82 g83 g84 g85 g86 g87 g88 g89 g90 g91 g92 g93 g94 g95 g96 g97 g98 g99 g100 : HV} (h : J4 D H k l y4 y5 y8 y10 y11 y12 y13 y71 y79 S = some p) : HRun Try.prog base W0 β0 4 (some l) [.inRegion r81 [15, 16], .code c82, .inBlock 3] ⟨[g0, g1, g2, g3, (.ptr y4), (.ptr y5), g6, g7, (.ptr y8), g9, (.ptr y10), (.ptr y11), (.ptr y12), (.str y13), g14, g15, g16, g17, g18, g19, g20, g21, g22, g23, g24, g25, g26, g27, g28, g29, g30, g31, g32, g33, g34, g35, g36, g37, g38, g39, g40, g41, g42, g43, g44, g45, g46, g47, g48, g49, g50, g51, g52, g53, g54, g55, g56, g57, g58, g59, g60, g61, g62, g63, g64, g65, g66, g67, g68, g69, g70, (.bool y71), g72, g73, g74, g75, g76, g77, g78, (.bool y79), g80, g81, g82, g83, g84, g85, g86, g87, g88, g89, g90, g91, g92, g93, g94, g95, g96, g97, g98, g99, g100], []⟩ S (fun v S1 => v = p.1 ∧ S1 = p.2) := by
  unfold J4 at h
  rcases ifc h with ⟨hc71, h⟩ | ⟨hc71, h⟩
  · refine q_op (dst := some 80) rfl (fun _ ho => ok_pick_tt ho (.tmp rfl) hc71 (.tmp rfl)) ?_
    try dsimp only [HAct.put, List.set_cons_zero, List.set_cons_succ]
    try dsimp only [HAct.put, List.set_cons_zero, List.set_cons_succ]
    exact J5_snd hD hH h
  · refine q_op (dst := some 80) rfl (fun _ ho => ok_pick_ff ho (.tmp rfl) (bfalse hc71) (.bool _)) ?_
    try dsimp only [HAct.put, List.set_cons_zero, List.set_cons_succ]
    try dsimp only [HAct.put, List.set_cons_zero, List.set_cons_succ]
    exact J5_snd hD hH h
def J3 (D : Dp) (H : Hd) (k : Nat) (l : Nat) (y4 : (Option HA)) (y5 : (Option HA)) (y8 : (Option HA)) (y10 : (Option HA)) (y11 : (Option HA)) (y12 : (Option HA)) (y13 : (List UInt8)) (y70 : Bool) (S : HS) : Option (HV × HS) :=
  (if y70 = true then
  (Option.bind (y10) fun p68 =>
  (Option.bind (HS.ldI S .i64 p68) fun p69 =>
  (if p69 = 0 then
  J4 D H k l y4 y5 y8 y10 y11 y12 y13 y70 true S else
  (Option.bind (y11) fun p90 =>
  (Option.bind (HS.ldS S p90) fun p91 =>
  (Option.bind (rollcallref01_Compare.f k p91 y13 S) fun p92 =>
  J4 D H k l y4 y5 y8 y10 y11 y12 y13 y70 (decide (p92.1 < 0)) p92.2)))))) else
  J5 D H k l y4 y5 y8 y10 y11 y12 y13 false S)
theorem J3_snd {D : Dp} {H : Hd} {k : Nat} {l : Nat} (hD : DSound Try.prog base W0 D) (hH : HSound Try.prog base W0 β0 H)  {y4 : (Option HA)} {y5 : (Option HA)} {y8 : (Option HA)} {y10 : (Option HA)} {y11 : (Option HA)} {y12 : (Option HA)} {y13 : (List UInt8)} {y70 : Bool} {S : HS} {p : HV × HS} {g0 g1 g2 g3 g6 g7 g9 g14 g15 g16 g17 g18 g19 g20 g21 g22 g23 g24 g25 g26 g27 g28 g29 g30 g31 g32 g33 g34 g35 g36 g37 g38 g39 g40 g41 g42 g43 g44 g45 g46 g47 g48 g49 g50 g51 g52 g53 g54 g55 g56 g57 g58 g59 g60 g61 g62 g63 g64 g65 g66 g67 g68 g69 g71 g72 g73 g74 g75 g76 g77 g78 g79 g80 g81 g82 g83 g84 g85 g86 g87 g88 g89 g90 g91 g92 g93 g94 g95 g96 g97 g98 g99 g100 : HV} (h : J3 D H k l y4 y5 y8 y10 y11 y12 y13 y70 S = some p) : HRun Try.prog base W0 β0 4 (some l) [.inRegion r81 [6, 7, 8, 9, 10, 11, 12, 13, 14, 15, 16], .code c82, .inBlock 3] ⟨[g0, g1, g2, g3, (.ptr y4), (.ptr y5), g6, g7, (.ptr y8), g9, (.ptr y10), (.ptr y11), (.ptr y12), (.str y13), g14, g15, g16, g17, g18, g19, g20, g21, g22, g23, g24, g25, g26, g27, g28, g29, g30, g31, g32, g33, g34, g35, g36, g37, g38, g39, g40, g41, g42, g43, g44, g45, g46, g47, g48, g49, g50, g51, g52, g53, g54, g55, g56, g57, g58, g59, g60, g61, g62, g63, g64, g65, g66, g67, g68, g69, (.bool y70), g71, g72, g73, g74, g75, g76, g77, g78, g79, g80, g81, g82, g83, g84, g85, g86, g87, g88, g89, g90, g91, g92, g93, g94, g95, g96, g97, g98, g99, g100], []⟩ S (fun v S1 => v = p.1 ∧ S1 = p.2) := by
  unfold J3 at h
  refine q_op (dst := some 71) rfl (fun _ ho => ok_move ho (.tmp rfl)) ?_
  rcases ifc h with ⟨hc67, h⟩ | ⟨hc67, h⟩
  · obtain ⟨p68, hp68, h⟩ := bindo h
    obtain ⟨p69, hp69, h⟩ := bindo h
    refine q_op_g (t := 71) (dst := some 72) rfl rfl rfl hc67 (fun _ ho => ok_load_s ho sc3 (.tmp rfl) hp68 (ldI_out hp69)) ?_
    try dsimp only [HAct.put, List.set_cons_zero, List.set_cons_succ]
    refine q_op_g (t := 71) (dst := some 73) rfl rfl rfl hc67 (fun _ ho => ok_ibin ho (.tmp rfl) (.int _ _) rfl) ?_
    refine q_op_g (t := 71) (dst := some 74) rfl rfl rfl hc67 (fun _ ho => ok_move ho (.tmp rfl)) ?_
    rcases ifc h with ⟨hc70, h⟩ | ⟨hc70, h⟩
    · refine q_skip (dst := some 75) (t := 74) rfl rfl rfl (decide_eq_true hc70) ?_
      refine q_skip (dst := some 76) (t := 74) rfl rfl rfl (decide_eq_true hc70) ?_
      try dsimp only [HAct.put, List.set_cons_zero, List.set_cons_succ]
      refine q_skip (dst := some 77) (t := 74) rfl rfl rfl (decide_eq_true hc70) ?_
      refine q_skip (dst := some 78) (t := 74) rfl rfl rfl (decide_eq_true hc70) ?_
      refine q_op_g (t := 71) (dst := some 79) rfl rfl rfl hc67 (fun _ ho => ok_pick_tt ho (.tmp rfl) (decide_eq_true hc70) (.bool _)) ?_
      try dsimp only [HAct.put, List.set_cons_zero, List.set_cons_succ]
      exact J4_snd hD hH h
    · obtain ⟨p90, hp90, h⟩ := bindo h
      obtain ⟨p91, hp91, h⟩ := bindo h
      refine q_op_g (t := 74) (dst := some 75) rfl rfl rfl (decide_eq_false hc70) (fun _ ho => ok_load_s ho sc9 (.tmp rfl) hp90 (ldS_out hp91)) ?_
      refine q_op_g (t := 74) (dst := some 76) rfl rfl rfl (decide_eq_false hc70) (fun _ ho => ok_move ho (.tmp rfl)) ?_
      try dsimp only [HAct.put, List.set_cons_zero, List.set_cons_succ]
      obtain ⟨p92, hp92, h⟩ := bindo h
      refine q_call_g (t := 74) (dst := some 77) rfl rfl rfl (decide_eq_false hc70) (.func _) (.cons (.tmp rfl) (.cons (.tmp rfl) Evs.nil)) (HInv.static rollcallref01_Compare.at_ rollcallref01_Compare.body (rollcallref01_Compare.snd  hp92)) ?_
      rintro _ _ ⟨rfl, rfl⟩
      refine q_op_g (t := 74) (dst := some 78) rfl rfl rfl (decide_eq_false hc70) (fun _ ho => ok_ibin ho (.tmp rfl) (.int _ _) rfl) ?_
      refine q_op_g (t := 71) (dst := some 79) rfl rfl rfl hc67 (fun _ ho => ok_pick_ff ho (.tmp rfl) (decide_eq_false hc70) (.tmp rfl)) ?_
      try dsimp only [HAct.put, List.set_cons_zero, List.set_cons_succ]
      exact J4_snd hD hH h
  · refine q_skip (dst := some 72) (t := 71) rfl rfl rfl (bfalse hc67) ?_
    try dsimp only [HAct.put, List.set_cons_zero, List.set_cons_succ]
    refine q_skip (dst := some 73) (t := 71) rfl rfl rfl (bfalse hc67) ?_
    refine q_skip (dst := some 74) (t := 71) rfl rfl rfl (bfalse hc67) ?_
    refine q_skip_u (dst := some 75) (t := 74) rfl rfl rfl ?_
    refine q_skip_u (dst := some 76) (t := 74) rfl rfl rfl ?_
    try dsimp only [HAct.put, List.set_cons_zero, List.set_cons_succ]
    refine q_skip_u (dst := some 77) (t := 74) rfl rfl rfl ?_
    refine q_skip_u (dst := some 78) (t := 74) rfl rfl rfl ?_
    refine q_skip (dst := some 79) (t := 71) rfl rfl rfl (bfalse hc67) ?_
    refine q_op (dst := some 80) rfl (fun _ ho => ok_pick_ff ho (.tmp rfl) (bfalse hc67) (.bool _)) ?_
    try dsimp only [HAct.put, List.set_cons_zero, List.set_cons_succ]
    try dsimp only [HAct.put, List.set_cons_zero, List.set_cons_succ]
    exact J5_snd hD hH h
def J2 (D : Dp) (H : Hd) (k : Nat) (l : Nat) (y4 : (Option HA)) (y5 : (Option HA)) (y8 : (Option HA)) (y10 : (Option HA)) (y11 : (Option HA)) (y12 : (Option HA)) (y63 : (List UInt8)) (y64 : (List UInt8)) (S : HS) : Option (HV × HS) :=
  (Option.bind (HS.begin_ S l) fun p63 =>
  (Option.bind (y12) fun p64 =>
  (Option.bind (HS.ldB p63 p64) fun p65 =>
  (if p65 = true then
  J3 D H k l y4 y5 y8 y10 y11 y12 y63 (decide (y63 = y64)) p63 else
  J3 D H k l y4 y5 y8 y10 y11 y12 y63 false p63))))
theorem J2_snd {D : Dp} {H : Hd} {k : Nat} {l : Nat} (hD : DSound Try.prog base W0 D) (hH : HSound Try.prog base W0 β0 H)  {y4 : (Option HA)} {y5 : (Option HA)} {y8 : (Option HA)} {y10 : (Option HA)} {y11 : (Option HA)} {y12 : (Option HA)} {y63 : (List UInt8)} {y64 : (List UInt8)} {S : HS} {p : HV × HS} {g0 g1 g2 g3 g6 g7 g9 g13 g14 g15 g16 g17 g18 g19 g20 g21 g22 g23 g24 g25 g26 g27 g28 g29 g30 g31 g32 g33 g34 g35 g36 g37 g38 g39 g40 g41 g42 g43 g44 g45 g46 g47 g48 g49 g50 g51 g52 g53 g54 g55 g56 g57 g58 g59 g60 g61 g62 g65 g66 g67 g68 g69 g70 g71 g72 g73 g74 g75 g76 g77 g78 g79 g80 g81 g82 g83 g84 g85 g86 g87 g88 g89 g90 g91 g92 g93 g94 g95 g96 g97 g98 g99 g100 : HV} (h : J2 D H k l y4 y5 y8 y10 y11 y12 y63 y64 S = some p) : HRun Try.prog base W0 β0 4 (some l) [.code c76, .beginRound, .code c79] ⟨[g0, g1, g2, g3, (.ptr y4), (.ptr y5), g6, g7, (.ptr y8), g9, (.ptr y10), (.ptr y11), (.ptr y12), g13, g14, g15, g16, g17, g18, g19, g20, g21, g22, g23, g24, g25, g26, g27, g28, g29, g30, g31, g32, g33, g34, g35, g36, g37, g38, g39, g40, g41, g42, g43, g44, g45, g46, g47, g48, g49, g50, g51, g52, g53, g54, g55, g56, g57, g58, g59, g60, g61, g62, (.str y63), (.str y64), g65, g66, g67, g68, g69, g70, g71, g72, g73, g74, g75, g76, g77, g78, g79, g80, g81, g82, g83, g84, g85, g86, g87, g88, g89, g90, g91, g92, g93, g94, g95, g96, g97, g98, g99, g100], []⟩ S (fun v S1 => v = p.1 ∧ S1 = p.2) := by
  unfold J2 at h
  refine q_seq e76 ?_
  refine q_region e77 rfl ?_
  refine q_op (dst := some 13) rfl (fun _ ho => ok_assign ho (.tmp rfl)) ?_
  refine hr_region_end ?_
  try dsimp only [HAct.put, List.set_cons_zero, List.set_cons_succ]
  refine q_region e78 rfl ?_
  refine q_op (dst := some 14) rfl (fun _ ho => ok_assign ho (.tmp rfl)) ?_
  refine hr_region_end ?_
  try dsimp only [HAct.put, List.set_cons_zero, List.set_cons_succ]
  obtain ⟨p63, hp63, h⟩ := bindo h
  refine q_begin hp63 ?_
  refine q_block e79 ?_
  refine q_seq e80 ?_
  refine q_region e81 rfl ?_
  obtain ⟨p64, hp64, h⟩ := bindo h
  obtain ⟨p65, hp65, h⟩ := bindo h
  refine q_op (dst := some 65) rfl (fun _ ho => ok_load_s ho sc4 (.tmp rfl) hp64 (ldB_out hp65)) ?_
  refine q_op (dst := some 66) rfl (fun _ ho => ok_move ho (.tmp rfl)) ?_
  rcases ifc h with ⟨hc66, h⟩ | ⟨hc66, h⟩
  · refine q_op_g (t := 66) (dst := some 67) rfl rfl rfl hc66 (fun _ ho => ok_move ho (.tmp rfl)) ?_
    refine q_op_g (t := 66) (dst := some 68) rfl rfl rfl hc66 (fun _ ho => ok_move ho (.tmp rfl)) ?_
    try dsimp only [HAct.put, List.set_cons_zero, List.set_cons_succ]
    refine q_op_g (t := 66) (dst := some 69) rfl rfl rfl hc66 (fun _ ho => ok_sbin ho (.tmp rfl) (.tmp rfl) rfl) ?_
    refine q_op (dst := some 70) rfl (fun _ ho => ok_pick_tt ho (.tmp rfl) hc66 (.tmp rfl)) ?_
    try dsimp only [HAct.put, List.set_cons_zero, List.set_cons_succ]
    exact J3_snd hD hH h
  · refine q_skip (dst := some 67) (t := 66) rfl rfl rfl (bfalse hc66) ?_
    refine q_skip (dst := some 68) (t := 66) rfl rfl rfl (bfalse hc66) ?_
    try dsimp only [HAct.put, List.set_cons_zero, List.set_cons_succ]
    refine q_skip (dst := some 69) (t := 66) rfl rfl rfl (bfalse hc66) ?_
    refine q_op (dst := some 70) rfl (fun _ ho => ok_pick_ff ho (.tmp rfl) (bfalse hc66) (.bool _)) ?_
    try dsimp only [HAct.put, List.set_cons_zero, List.set_cons_succ]
    exact J3_snd hD hH h
def J7 (D : Dp) (H : Hd) (k : Nat) (y4 : (Option HA)) (y100 : Bool) (ds : List Nat) (S : HS) : Option ((Bool) × HS) :=
  (Option.bind (y4) fun p109 =>
  (Option.bind (HS.sets S p109 [(.bool y100)]) fun p110 =>
  (Option.bind (HS.leave p110 ds) fun p111 =>
  (Option.bind (y4) fun p112 =>
  (Option.bind (HS.ldB p111 p112) fun p113 =>
  some (p113, p111))))))
theorem J7_snd {D : Dp} {H : Hd} {k : Nat} (hD : DSound Try.prog base W0 D) (hH : HSound Try.prog base W0 β0 H)  {y4 : (Option HA)} {y100 : Bool} {ds : List Nat} {S : HS} {p : (Bool) × HS} {g0 g1 g2 g3 g5 g6 g7 g8 g9 g10 g11 g12 g13 g14 g15 g16 g17 g18 g19 g20 g21 g22 g23 g24 g25 g26 g27 g28 g29 g30 g31 g32 g33 g34 g35 g36 g37 g38 g39 g40 g41 g42 g43 g44 g45 g46 g47 g48 g49 g50 g51 g52 g53 g54 g55 g56 g57 g58 g59 g60 g61 g62 g63 g64 g65 g66 g67 g68 g69 g70 g71 g72 g73 g74 g75 g76 g77 g78 g79 g80 g81 g82 g83 g84 g85 g86 g87 g88 g89 g90 g91 g92 g93 g94 g95 g96 g97 g98 g99 : HV} (h : J7 D H k y4 y100 ds S = some p) : HRun Try.prog base W0 β0 4 none [.inRegion r96 [11], .code c97] ⟨[g0, g1, g2, g3, (.ptr y4), g5, g6, g7, g8, g9, g10, g11, g12, g13, g14, g15, g16, g17, g18, g19, g20, g21, g22, g23, g24, g25, g26, g27, g28, g29, g30, g31, g32, g33, g34, g35, g36, g37, g38, g39, g40, g41, g42, g43, g44, g45, g46, g47, g48, g49, g50, g51, g52, g53, g54, g55, g56, g57, g58, g59, g60, g61, g62, g63, g64, g65, g66, g67, g68, g69, g70, g71, g72, g73, g74, g75, g76, g77, g78, g79, g80, g81, g82, g83, g84, g85, g86, g87, g88, g89, g90, g91, g92, g93, g94, g95, g96, g97, g98, g99, (.bool y100)], ds⟩ S (fun v S1 => v = (.bool p.1) ∧ S1 = p.2) := by
  unfold J7 at h
  obtain ⟨p109, hp109, h⟩ := bindo h
  obtain ⟨p110, hp110, h⟩ := bindo h
  refine q_op (dst := none) rfl (fun _ ho => ok_store_s (v := (.bool y100)) ho sz4 (.tmp rfl) hp109 (.tmp rfl) rfl hp110) ?_
  refine hr_region_end ?_
  try dsimp only [HAct.put, List.set_cons_zero, List.set_cons_succ]
  obtain ⟨p111, hp111, h⟩ := bindo h
  obtain ⟨p112, hp112, h⟩ := bindo h
  obtain ⟨p113, hp113, h⟩ := bindo h
  cases h
  exact q_ret e97 at_.at_ hp111 (resL1 rfl (.cell rfl hp112 sc4 (ldB_out hp113))) ⟨rfl, rfl⟩
def J6 (D : Dp) (H : Hd) (k : Nat) (y4 : (Option HA)) (y5 : (Option HA)) (y95 : Bool) (ds : List Nat) (S : HS) : Option ((Bool) × HS) :=
  (if y95 = true then
  (Option.bind (y5) fun p106 =>
  (Option.bind (HS.ldP S p106) fun p107 =>
  (Option.bind (book_Book_string_Len.f p107 S) fun p108 =>
  J7 D H k y4 (decide (p108.1 ≤ 1)) ds p108.2))) else
  J7 D H k y4 false ds S)
theorem J6_snd {D : Dp} {H : Hd} {k : Nat} (hD : DSound Try.prog base W0 D) (hH : HSound Try.prog base W0 β0 H)  {y4 : (Option HA)} {y5 : (Option HA)} {y95 : Bool} {ds : List Nat} {S : HS} {p : (Bool) × HS} {g0 g1 g2 g3 g6 g7 g8 g9 g10 g11 g12 g13 g14 g15 g16 g17 g18 g19 g20 g21 g22 g23 g24 g25 g26 g27 g28 g29 g30 g31 g32 g33 g34 g35 g36 g37 g38 g39 g40 g41 g42 g43 g44 g45 g46 g47 g48 g49 g50 g51 g52 g53 g54 g55 g56 g57 g58 g59 g60 g61 g62 g63 g64 g65 g66 g67 g68 g69 g70 g71 g72 g73 g74 g75 g76 g77 g78 g79 g80 g81 g82 g83 g84 g85 g86 g87 g88 g89 g90 g91 g92 g93 g94 g96 g97 g98 g99 g100 : HV} (h : J6 D H k y4 y5 y95 ds S = some p) : HRun Try.prog base W0 β0 4 none [.inRegion r96 [6, 7, 8, 9, 10, 11], .code c97] ⟨[g0, g1, g2, g3, (.ptr y4), (.ptr y5), g6, g7, g8, g9, g10, g11, g12, g13, g14, g15, g16, g17, g18, g19, g20, g21, g22, g23, g24, g25, g26, g27, g28, g29, g30, g31, g32, g33, g34, g35, g36, g37, g38, g39, g40, g41, g42, g43, g44, g45, g46, g47, g48, g49, g50, g51, g52, g53, g54, g55, g56, g57, g58, g59, g60, g61, g62, g63, g64, g65, g66, g67, g68, g69, g70, g71, g72, g73, g74, g75, g76, g77, g78, g79, g80, g81, g82, g83, g84, g85, g86, g87, g88, g89, g90, g91, g92, g93, g94, (.bool y95), g96, g97, g98, g99, g100], ds⟩ S (fun v S1 => v = (.bool p.1) ∧ S1 = p.2) := by
  unfold J6 at h
  refine q_op (dst := some 96) rfl (fun _ ho => ok_move ho (.tmp rfl)) ?_
  rcases ifc h with ⟨hc105, h⟩ | ⟨hc105, h⟩
  · obtain ⟨p106, hp106, h⟩ := bindo h
    obtain ⟨p107, hp107, h⟩ := bindo h
    refine q_op_g (t := 96) (dst := some 97) rfl rfl rfl hc105 (fun _ ho => ok_load_s ho sc33 (.tmp rfl) hp106 (ldP_out hp107)) ?_
    try dsimp only [HAct.put, List.set_cons_zero, List.set_cons_succ]
    obtain ⟨p108, hp108, h⟩ := bindo h
    refine q_call_g (t := 96) (dst := some 98) rfl rfl rfl hc105 (.func _) (.cons (.tmp rfl) Evs.nil) (HInv.static book_Book_string_Len.at_ book_Book_string_Len.body (book_Book_string_Len.snd  hp108)) ?_
    rintro _ _ ⟨rfl, rfl⟩
    refine q_op_g (t := 96) (dst := some 99) rfl rfl rfl hc105 (fun _ ho => ok_ibin ho (.tmp rfl) (.int _ _) rfl) ?_
    refine q_op (dst := some 100) rfl (fun _ ho => ok_pick_tt ho (.tmp rfl) hc105 (.tmp rfl)) ?_
    try dsimp only [HAct.put, List.set_cons_zero, List.set_cons_succ]
    exact J7_snd hD hH h
  · refine q_skip (dst := some 97) (t := 96) rfl rfl rfl (bfalse hc105) ?_
    try dsimp only [HAct.put, List.set_cons_zero, List.set_cons_succ]
    refine q_skip (dst := some 98) (t := 96) rfl rfl rfl (bfalse hc105) ?_
    refine q_skip (dst := some 99) (t := 96) rfl rfl rfl (bfalse hc105) ?_
    refine q_op (dst := some 100) rfl (fun _ ho => ok_pick_ff ho (.tmp rfl) (bfalse hc105) (.bool _)) ?_
    try dsimp only [HAct.put, List.set_cons_zero, List.set_cons_succ]
    exact J7_snd hD hH h
def L1 (D : Dp) (H : Hd) (k : Nat) : Nat → Sl → (List UInt8) → (Option HA) → (Option HA) → Int → List Nat → HS → Option ((Bool) × HS)
  | 0, _, _, _, _, _, _, _ => none
  | n + 1, y0, y1, y4, y5, y7, ds, S =>
    (if y7 < (Sl.len y0 : Int) then
    (Option.bind (HS.idx S y0 y7 1) fun p24 =>
    (Option.bind (HS.ldS S p24) fun p25 =>
    (if (List.length p25 : Int) > 30 then
    (Option.bind (y4) fun p27 =>
    (Option.bind (HS.sets S p27 [(.bool true)]) fun p28 =>
    (Option.bind (HS.leave p28 ds) fun p29 =>
    (Option.bind (y4) fun p30 =>
    (Option.bind (HS.ldB p29 p30) fun p31 =>
    some (p31, p29)))))) else
    (Option.bind (y5) fun p32 =>
    (Option.bind (HS.ldP S p32) fun p33 =>
    (Option.bind (HS.idx S y0 y7 1) fun p34 =>
    (Option.bind (HS.ldS S p34) fun p35 =>
    (Option.bind (HS.idx S y0 y7 1) fun p36 =>
    (Option.bind (HS.ldS S p36) fun p37 =>
    (Option.bind (book_Book_string_Put.f D H k p33 p35 p37 S) fun p38 =>
    (L1 D H k n) y0 y1 y4 y5 (w64 (y7 + 1)) ds p38.2)))))))))) else
    (Option.bind (y5) fun p39 =>
    (Option.bind (HS.ldP S p39) fun p40 =>
    (Option.bind (book_Book_string_Len.f p40 S) fun p41 =>
    (letv (HS.new p41.2 (.cells 1 [[(.int .i64 0)]] true)) fun p42 =>
    (Option.bind (HS.sets p42 (HA.cell0 p41.2.next) [(.int .i64 p41.1)]) fun p43 =>
    (Option.bind (y5) fun p44 =>
    (Option.bind (HS.ldP p43 p44) fun p45 =>
    (Option.bind (book_Book_string_All.f p45 p43) fun p46 =>
    (Option.bind (HV.isNilFn p46.1) fun p47 =>
    (if (p47) = true then
    (Option.bind (y4) fun p49 =>
    (Option.bind (HS.sets p46.2 p49 [(.bool false)]) fun p50 =>
    (Option.bind (HS.leave p50 ds) fun p51 =>
    (Option.bind (y4) fun p52 =>
    (Option.bind (HS.ldB p51 p52) fun p53 =>
    some (p53, p51)))))) else
    (Option.bind (y5) fun p54 =>
    (Option.bind (HS.ldP p46.2 p54) fun p55 =>
    (Option.bind (book_Book_string_Put.f D H k p55 y1 ([] : List UInt8) p46.2) fun p56 =>
    (letv (HS.new p56.2 (.cells 1 [[(.int .i64 0)]] true)) fun p57 =>
    (Option.bind (HS.sets p57 (HA.cell0 p56.2.next) [(.int .i64 0)]) fun p58 =>
    (letv (HS.new p58 (.cells 1 [[(.str [])]] true)) fun p59 =>
    (Option.bind (HS.sets p59 (HA.cell0 p58.next) [(.str ([] : List UInt8))]) fun p60 =>
    (letv (HS.new p60 (.cells 1 [[(.bool false)]] true)) fun p61 =>
    (Option.bind (HS.sets p61 (HA.cell0 p60.next) [(.bool true)]) fun p62 =>
    (Option.bind (D (Hd.set H (HS.next p62 + 1) fun vs T =>
    (Option.bind (HS.lp T (HS.next p62 + 1)) fun u96 =>
    (Option.bind (args2 vs) fun ar93 =>
    (Option.bind (dS ar93.1) fun p94 =>
    (Option.bind (dS ar93.2) fun p95 =>
    (J2 D H k (HS.next p62 + 1) y4 y5 (some (HA.cell0 p41.2.next)) (some (HA.cell0 p56.2.next)) (some (HA.cell0 p58.next)) (some (HA.cell0 p60.next)) p94 p95 T)))))) p46.1 [.fn (.yield (HS.next p62 + 1)) [] []] (HS.new (HS.new p62 .defer) (.loop .ready none))) fun p97 =>
    (Option.bind (HS.finish p97.2 (HS.next p62 + 1)) fun p98 =>
    (Option.bind (pcode p98.1) fun n99 =>
    (if n99 = 0 then
    (Option.bind (HS.ldB p98.2 (HA.cell0 p60.next)) fun p101 =>
    (if p101 = true then
    (Option.bind (HS.ldI p98.2 .i64 (HA.cell0 p56.2.next)) fun p103 =>
    (Option.bind (HS.ldI p98.2 .i64 (HA.cell0 p41.2.next)) fun p104 =>
    J6 D H k y4 y5 (decide (p103 = p104)) (HS.next p62 :: ds) p98.2)) else
    J6 D H k y4 y5 false (HS.next p62 :: ds) p98.2)) else
    (if n99 = 1 then
    (Option.bind (HS.leave p98.2 (HS.next p62 :: ds)) fun p115 =>
    (Option.bind (y4) fun p116 =>
    (Option.bind (HS.ldB p115 p116) fun p117 =>
    some (p117, p115)))) else
    none)))))))))))))))))))))))))
theorem L1_snd {D : Dp} {H : Hd} {k : Nat} (hD : DSound Try.prog base W0 D) (hH : HSound Try.prog base W0 β0 H)  : ∀ {n : Nat} ⦃y0 : Sl⦄ ⦃y1 : (List UInt8)⦄ ⦃y4 : (Option HA)⦄ ⦃y5 : (Option HA)⦄ ⦃y7 : Int⦄ ⦃ds : List Nat⦄ ⦃S : HS⦄ ⦃p : (Bool) × HS⦄ ⦃g2 g3 g6 g8 g9 g10 g11 g12 g13 g14 g15 g16 g17 g18 g19 g20 g21 g22 g23 g24 g25 g26 g27 g28 g29 g30 g31 g32 g33 g34 g35 g36 g37 g38 g39 g40 g41 g42 g43 g44 g45 g46 g47 g48 g49 g50 g51 g52 g53 g54 g55 g56 g57 g58 g59 g60 g61 g62 g63 g64 g65 g66 g67 g68 g69 g70 g71 g72 g73 g74 g75 g76 g77 g78 g79 g80 g81 g82 g83 g84 g85 g86 g87 g88 g89 g90 g91 g92 g93 g94 g95 g96 g97 g98 g99 g100 : HV⦄, L1 D H k n y0 y1 y4 y5 y7 ds S = some p → HRun Try.prog base W0 β0 4 none [.inLoop c33, .inBlock 0, .code c51] ⟨[(Sl.hv y0), (.str y1), g2, g3, (.ptr y4), (.ptr y5), g6, (.int .i64 y7), g8, g9, g10, g11, g12, g13, g14, g15, g16, g17, g18, g19, g20, g21, g22, g23, g24, g25, g26, g27, g28, g29, g30, g31, g32, g33, g34, g35, g36, g37, g38, g39, g40, g41, g42, g43, g44, g45, g46, g47, g48, g49, g50, g51, g52, g53, g54, g55, g56, g57, g58, g59, g60, g61, g62, g63, g64, g65, g66, g67, g68, g69, g70, g71, g72, g73, g74, g75, g76, g77, g78, g79, g80, g81, g82, g83, g84, g85, g86, g87, g88, g89, g90, g91, g92, g93, g94, g95, g96, g97, g98, g99, g100], ds⟩ S (fun v S1 => v = (.bool p.1) ∧ S1 = p.2) := by
  intro n
  induction n with
  | zero => intro _ _ _ _ _ _ _ _ _ _ _ _ _ _ _ _ _ _ _ _ _ _ _ _ _ _ _ _ _ _ _ _ _ _ _ _ _ _ _ _ _ _ _ _ _ _ _ _ _ _ _ _ _ _ _ _ _ _ _ _ _ _ _ _ _ _ _ _ _ _ _ _ _ _ _ _ _ _ _ _ _ _ _ _ _ _ _ _ _ _ _ _ _ _ _ _ _ _ _ _ _ _ _ _ h; cases h
  | succ n ih =>
    intro y0 y1 y4 y5 y7 ds S p g2 g3 g6 g8 g9 g10 g11 g12 g13 g14 g15 g16 g17 g18 g19 g20 g21 g22 g23 g24 g25 g26 g27 g28 g29 g30 g31 g32 g33 g34 g35 g36 g37 g38 g39 g40 g41 g42 g43 g44 g45 g46 g47 g48 g49 g50 g51 g52 g53 g54 g55 g56 g57 g58 g59 g60 g61 g62 g63 g64 g65 g66 g67 g68 g69 g70 g71 g72 g73 g74 g75 g76 g77 g78 g79 g80 g81 g82 g83 g84 g85 g86 g87 g88 g89 g90 g91 g92 g93 g94 g95 g96 g97 g98 g99 g100 h
    simp only [L1] at h
    refine hr_inLoop ?_
    refine q_seq e33 ?_
    refine q_seq e34 ?_
    refine q_region e35 rfl ?_
    refine q_op (dst := some 31) rfl (fun _ ho => ok_move ho (.tmp rfl)) ?_
    refine q_op (dst := some 32) rfl (fun _ ho => ok_move ho (.tmp rfl)) ?_
    refine q_op (dst := some 33) rfl (fun _ ho => ok_len_sl (q := Sl.a y0) (n := Sl.len y0) (z := Sl.cap y0) ho rfl tu32 (.tmp rfl)) ?_
    refine q_op (dst := some 34) rfl (fun _ ho => ok_ibin ho (.tmp rfl) (.tmp rfl) rfl) ?_
    refine hr_region_end ?_
    try dsimp only [HAct.put, List.set_cons_zero, List.set_cons_succ]
    rcases ifc h with ⟨hc23, h⟩ | ⟨hc23, h⟩
    · refine q_cond_t e36 (.tmp rfl) (decide_eq_true hc23) ?_
      refine q_skipc e37 ?_
      refine q_seq e39 ?_
      refine q_block e40 ?_
      refine q_seq e41 ?_
      refine q_seq e42 ?_
      refine q_region e43 rfl ?_
      refine q_op (dst := some 37) rfl (fun _ ho => ok_move ho (.tmp rfl)) ?_
      refine q_op (dst := some 38) rfl (fun _ ho => ok_move ho (.tmp rfl)) ?_
      obtain ⟨p24, hp24, h⟩ := bindo h
      refine q_op (dst := some 39) rfl (fun _ ho => ok_indexAddr (s := y0) ho tu32 sz9 (.tmp rfl) (.tmp rfl) hp24) ?_
      obtain ⟨p25, hp25, h⟩ := bindo h
      refine q_op (dst := some 40) rfl (fun _ ho => ok_load_s ho sc9 (.tmp rfl) rfl (ldS_out hp25)) ?_
      try dsimp only [HAct.put, List.set_cons_zero, List.set_cons_succ]
      refine q_op (dst := some 41) rfl (fun _ ho => ok_len_str ho rfl tu9 (.tmp rfl)) ?_
      refine q_op (dst := some 42) rfl (fun _ ho => ok_ibin ho (.tmp rfl) (.int _ _) rfl) ?_
      refine hr_region_end ?_
      try dsimp only [HAct.put, List.set_cons_zero, List.set_cons_succ]
      rcases ifc h with ⟨hc26, h⟩ | ⟨hc26, h⟩
      · refine q_cond_t e44 (.tmp rfl) (decide_eq_true hc26) ?_
        refine q_seq e45 ?_
        refine q_region e46 rfl ?_
        obtain ⟨p27, hp27, h⟩ := bindo h
        obtain ⟨p28, hp28, h⟩ := bindo h
        refine q_op (dst := none) rfl (fun _ ho => ok_store_s (v := (.bool true)) ho sz4 (.tmp rfl) hp27 (.bool _) rfl hp28) ?_
        refine hr_region_end ?_
        try dsimp only [HAct.put, List.set_cons_zero, List.set_cons_succ]
        obtain ⟨p29, hp29, h⟩ := bindo h
        obtain ⟨p30, hp30, h⟩ := bindo h
        obtain ⟨p31, hp31, h⟩ := bindo h
        cases h
        exact q_ret e47 at_.at_ hp29 (resL1 rfl (.cell rfl hp30 sc4 (ldB_out hp31))) ⟨rfl, rfl⟩
      · refine q_cond_f e44 (.tmp rfl) (decide_eq_false hc26) ?_
        refine q_skipc e48 ?_
        refine x_start (cls := [1, 0, 0, 1, 1, 0, 0, 1, 1, 2]) (rk := [0, 1, 2, 3, 4, 5, 6, 7, 8, 9]) e49 (by kernel_rfl) ?_
        obtain ⟨p32, hp32, h⟩ := bindo h
        obtain ⟨p33, hp33, h⟩ := bindo h
        refine x_go (r_op (dst := some 43) (ts := [5]) rfl (by intro _ _ h; cases h) (by kernel_rfl) (fun _ ho => ok_load_s ho sc33 (.tmp rfl) hp32 (ldP_out hp33))) rfl ?_
        refine x_go (f_op (dst := some 44) (ts := [0]) rfl (by intro _ _ h; cases h) (by kernel_rfl) (fun _ _ ho => ok_move ho (.tmp rfl))) rfl ?_
        refine x_go (f_op (dst := some 45) (ts := [7]) rfl (by intro _ _ h; cases h) (by kernel_rfl) (fun _ _ ho => ok_move ho (.tmp rfl))) rfl ?_
        obtain ⟨p34, hp34, h⟩ := bindo h
        refine x_go (r_op (dst := some 46) (ts := [44, 45]) rfl (by intro _ _ h; cases h) (by kernel_rfl) (fun _ ho => ok_indexAddr (s := y0) ho tu32 sz9 (.tmp rfl) (.tmp rfl) hp34)) rfl ?_
        try dsimp only [HAct.put, List.set_cons_zero, List.set_cons_succ]
        obtain ⟨p35, hp35, h⟩ := bindo h
        refine x_go (r_op (dst := some 47) (ts := [46]) rfl (by intro _ _ h; cases h) (by kernel_rfl) (fun _ ho => ok_load_s ho sc9 (.tmp rfl) rfl (ldS_out hp35))) rfl ?_
        refine x_go (f_op (dst := some 48) (ts := [0]) rfl (by intro _ _ h; cases h) (by kernel_rfl) (fun _ _ ho => ok_move ho (.tmp rfl))) rfl ?_
        refine x_go (f_op (dst := some 49) (ts := [7]) rfl (by intro _ _ h; cases h) (by kernel_rfl) (fun _ _ ho => ok_move ho (.tmp rfl))) rfl ?_
        obtain ⟨p36, hp36, h⟩ := bindo h
        refine x_go (r_op (dst := some 50) (ts := [48, 49]) rfl (by intro _ _ h; cases h) (by kernel_rfl) (fun _ ho => ok_indexAddr (s := y0) ho tu32 sz9 (.tmp rfl) (.tmp rfl) hp36)) rfl ?_
        try dsimp only [HAct.put, List.set_cons_zero, List.set_cons_succ]
        obtain ⟨p37, hp37, h⟩ := bindo h
        refine x_go (r_op (dst := some 51) (ts := [50]) rfl (by intro _ _ h; cases h) (by kernel_rfl) (fun _ ho => ok_load_s ho sc9 (.tmp rfl) rfl (ldS_out hp37))) rfl ?_
        obtain ⟨p38, hp38, h⟩ := bindo h
        refine x_go (e_call (dst := some 52) (ts := [43, 47, 51]) rfl (by kernel_rfl) (.func _) (.cons (.tmp rfl) (.cons (.tmp rfl) (.cons (.tmp rfl) Evs.nil))) (HInv.static book_Book_string_Put.at_ book_Book_string_Put.body (book_Book_string_Put.snd hD hH hp38))) rfl ?_
        refine x_rest rfl ?_
        refine hr_region_end ?_
        try dsimp only [HAct.put, List.set_cons_zero, List.set_cons_succ]
        refine hr_inBlock ?_
        refine q_region e50 rfl ?_
        refine q_op (dst := some 35) rfl (fun _ ho => ok_move ho (.tmp rfl)) ?_
        refine q_op (dst := some 36) rfl (fun _ ho => ok_ibin ho (.tmp rfl) (.int _ _) rfl) ?_
        refine q_op (dst := some 7) rfl (fun _ ho => ok_assign ho (.tmp rfl)) ?_
        refine hr_region_end ?_
        try dsimp only [HAct.put, List.set_cons_zero, List.set_cons_succ]
        try dsimp only [HAct.put, List.set_cons_zero, List.set_cons_succ]
        exact ih h
    · refine q_cond_f e36 (.tmp rfl) (decide_eq_false hc23) ?_
      refine q_exit e38 rfl ?_
      refine q_seq e51 ?_
      refine q_region e52 rfl ?_
      obtain ⟨p39, hp39, h⟩ := bindo h
      obtain ⟨p40, hp40, h⟩ := bindo h
      refine q_op (dst := some 53) rfl (fun _ ho => ok_load_s ho sc33 (.tmp rfl) hp39 (ldP_out hp40)) ?_
      obtain ⟨p41, hp41, h⟩ := bindo h
      refine q_call (dst := some 54) rfl (.func _) (.cons (.tmp rfl) Evs.nil) (HInv.static book_Book_string_Len.at_ book_Book_string_Len.body (book_Book_string_Len.snd  hp41)) ?_
      rintro _ _ ⟨rfl, rfl⟩
      obtain ⟨p42, hp42, h⟩ := leto h
      refine q_op (dst := some 8) rfl (fun _ ho => ok_alloc_e ho zi3 zr3 (by decide) rfl hp42) ?_
      obtain ⟨p43, hp43, h⟩ := bindo h
      refine q_op (dst := none) rfl (fun _ ho => ok_store_s (v := (.int .i64 p41.1)) ho sz3 (.tmp rfl) rfl (.tmp rfl) rfl hp43) ?_
      refine hr_region_end ?_
      try dsimp only [HAct.put, List.set_cons_zero, List.set_cons_succ]
      refine q_seq e53 ?_
      refine q_region e54 rfl ?_
      obtain ⟨p44, hp44, h⟩ := bindo h
      obtain ⟨p45, hp45, h⟩ := bindo h
      refine q_op (dst := some 55) rfl (fun _ ho => ok_load_s ho sc33 (.tmp rfl) hp44 (ldP_out hp45)) ?_
      obtain ⟨p46, hp46, h⟩ := bindo h
      refine q_call (dst := some 56) rfl (.func _) (.cons (.tmp rfl) Evs.nil) (HInv.static book_Book_string_All.at_ book_Book_string_All.body (book_Book_string_All.snd  hp46)) ?_
      rintro _ _ ⟨rfl, rfl⟩
      refine q_op (dst := some 9) rfl (fun _ ho => ok_assign ho (.tmp rfl)) ?_
      refine hr_region_end ?_
      try dsimp only [HAct.put, List.set_cons_zero, List.set_cons_succ]
      refine q_seq e55 ?_
      refine q_seq e56 ?_
      refine q_region e57 rfl ?_
      refine q_op (dst := some 57) rfl (fun _ ho => ok_move ho (.tmp rfl)) ?_
      obtain ⟨p47, hp47, h⟩ := bindo h
      refine q_op (dst := some 58) rfl (fun _ ho => ok_nil_fn ho tu38 (.tmp rfl) hp47 (.inl ⟨rfl, rfl⟩)) ?_
      refine hr_region_end ?_
      try dsimp only [HAct.put, List.set_cons_zero, List.set_cons_succ]
      rcases ifc h with ⟨hc48, h⟩ | ⟨hc48, h⟩
      · refine q_cond_t e58 (.tmp rfl) hc48 ?_
        refine q_seq e59 ?_
        refine q_region e60 rfl ?_
        obtain ⟨p49, hp49, h⟩ := bindo h
        obtain ⟨p50, hp50, h⟩ := bindo h
        refine q_op (dst := none) rfl (fun _ ho => ok_store_s (v := (.bool false)) ho sz4 (.tmp rfl) hp49 (.bool _) rfl hp50) ?_
        refine hr_region_end ?_
        try dsimp only [HAct.put, List.set_cons_zero, List.set_cons_succ]
        obtain ⟨p51, hp51, h⟩ := bindo h
        obtain ⟨p52, hp52, h⟩ := bindo h
        obtain ⟨p53, hp53, h⟩ := bindo h
        cases h
        exact q_ret e61 at_.at_ hp51 (resL1 rfl (.cell rfl hp52 sc4 (ldB_out hp53))) ⟨rfl, rfl⟩
      · refine q_cond_f e58 (.tmp rfl) (bfalse hc48) ?_
        refine q_skipc e62 ?_
        refine q_seq e63 ?_
        refine q_region e64 rfl ?_
        obtain ⟨p54, hp54, h⟩ := bindo h
        obtain ⟨p55, hp55, h⟩ := bindo h
        refine q_op (dst := some 59) rfl (fun _ ho => ok_load_s ho sc33 (.tmp rfl) hp54 (ldP_out hp55)) ?_
        refine q_op (dst := some 60) rfl (fun _ ho => ok_move ho (.tmp rfl)) ?_
        obtain ⟨p56, hp56, h⟩ := bindo h
        refine q_call (dst := some 61) rfl (.func _) (.cons (.tmp rfl) (.cons (.tmp rfl) (.cons (.str _) Evs.nil))) (HInv.static book_Book_string_Put.at_ book_Book_string_Put.body (book_Book_string_Put.snd hD hH hp56)) ?_
        rintro _ _ ⟨rfl, rfl⟩
        refine hr_region_end ?_
        try dsimp only [HAct.put, List.set_cons_zero, List.set_cons_succ]
        refine q_seq e65 ?_
        refine q_region e66 rfl ?_
        obtain ⟨p57, hp57, h⟩ := leto h
        refine q_op (dst := some 10) rfl (fun _ ho => ok_alloc_e ho zi3 zr3 (by decide) rfl hp57) ?_
        obtain ⟨p58, hp58, h⟩ := bindo h
        refine q_op (dst := none) rfl (fun _ ho => ok_store_s (v := (.int .i64 0)) ho sz3 (.tmp rfl) rfl (.int _ _) rfl hp58) ?_
        refine hr_region_end ?_
        try dsimp only [HAct.put, List.set_cons_zero, List.set_cons_succ]
        refine q_seq e67 ?_
        refine q_region e68 rfl ?_
        obtain ⟨p59, hp59, h⟩ := leto h
        refine q_op (dst := some 11) rfl (fun _ ho => ok_alloc_e ho zi9 zr9 (by decide) rfl hp59) ?_
        obtain ⟨p60, hp60, h⟩ := bindo h
        refine q_op (dst := none) rfl (fun _ ho => ok_store_s (v := (.str ([] : List UInt8))) ho sz9 (.tmp rfl) rfl (.str _) rfl hp60) ?_
        refine hr_region_end ?_
        try dsimp only [HAct.put, List.set_cons_zero, List.set_cons_succ]
        refine q_seq e69 ?_
        refine q_region e70 rfl ?_
        obtain ⟨p61, hp61, h⟩ := leto h
        refine q_op (dst := some 12) rfl (fun _ ho => ok_alloc_e ho zi4 zr4 (by decide) rfl hp61) ?_
        obtain ⟨p62, hp62, h⟩ := bindo h
        refine q_op (dst := none) rfl (fun _ ho => ok_store_s (v := (.bool true)) ho sz4 (.tmp rfl) rfl (.bool _) rfl hp62) ?_
        refine hr_region_end ?_
        try dsimp only [HAct.put, List.set_cons_zero, List.set_cons_succ]
        refine q_seq e71 ?_
        refine q_seq e72 ?_
        refine q_region e73 rfl ?_
        refine q_op (dst := some 62) rfl (fun _ ho => ok_move ho (.tmp rfl)) ?_
        refine hr_region_end ?_
        try dsimp only [HAct.put, List.set_cons_zero, List.set_cons_succ]
        refine q_block e74 ?_
        obtain ⟨p97, hp97, h⟩ := bindo h
        obtain ⟨p98, hp98, h⟩ := bindo h
        obtain ⟨n99, hn99, h⟩ := bindo h
        refine q_range (D := D) (H := H) e75 (.tmp rfl) hD hH hp97 hp98 ?_ ?_
        · intro β1 hle hLA vs T u T' hr
          obtain ⟨u96, hu96, hr⟩ := bindo hr
          obtain ⟨ar93, har93, hr⟩ := bindo hr
          obtain ⟨p94, hp94, hr⟩ := bindo hr
          obtain ⟨p95, hp95, hr⟩ := bindo hr
          rw [args2_out har93]
          refine q_yield2 hLA hu96 rfl rfl ?_
          rw [dS_out hp94, dS_out hp95]
          simp only [HAct.params, List.set_cons_zero, List.set_cons_succ]
          exact J2_snd hD (hH.up hle) hr
        · rcases ifc h with ⟨hc100, h⟩ | ⟨hc100, h⟩
          · rw [pcode0 hn99 hc100]
            simp only [jumped_none, jumped_some]
            refine hr_inBlock ?_
            refine q_seq e95 ?_
            refine q_region e96 rfl ?_
            obtain ⟨p101, hp101, h⟩ := bindo h
            refine q_op (dst := some 90) rfl (fun _ ho => ok_load_s ho sc4 (.tmp rfl) rfl (ldB_out hp101)) ?_
            refine q_op (dst := some 91) rfl (fun _ ho => ok_move ho (.tmp rfl)) ?_
            rcases ifc h with ⟨hc102, h⟩ | ⟨hc102, h⟩
            · obtain ⟨p103, hp103, h⟩ := bindo h
              refine q_op_g (t := 91) (dst := some 92) rfl rfl rfl hc102 (fun _ ho => ok_load_s ho sc3 (.tmp rfl) rfl (ldI_out hp103)) ?_
              obtain ⟨p104, hp104, h⟩ := bindo h
              refine q_op_g (t := 91) (dst := some 93) rfl rfl rfl hc102 (fun _ ho => ok_load_s ho sc3 (.tmp rfl) rfl (ldI_out hp104)) ?_
              try dsimp only [HAct.put, List.set_cons_zero, List.set_cons_succ]
              refine q_op_g (t := 91) (dst := some 94) rfl rfl rfl hc102 (fun _ ho => ok_ibin ho (.tmp rfl) (.tmp rfl) rfl) ?_
              refine q_op (dst := some 95) rfl (fun _ ho => ok_pick_tt ho (.tmp rfl) hc102 (.tmp rfl)) ?_
              try dsimp only [HAct.put, List.set_cons_zero, List.set_cons_succ]
              exact J6_snd hD hH h
            · refine q_skip (dst := some 92) (t := 91) rfl rfl rfl (bfalse hc102) ?_
              refine q_skip (dst := some 93) (t := 91) rfl rfl rfl (bfalse hc102) ?_
              try dsimp only [HAct.put, List.set_cons_zero, List.set_cons_succ]
              refine q_skip (dst := some 94) (t := 91) rfl rfl rfl (bfalse hc102) ?_
              refine q_op (dst := some 95) rfl (fun _ ho => ok_pick_ff ho (.tmp rfl) (bfalse hc102) (.bool _)) ?_
              try dsimp only [HAct.put, List.set_cons_zero, List.set_cons_succ]
              exact J6_snd hD hH h
          · rcases ifc h with ⟨hc114, h⟩ | ⟨hc114, h⟩
            · rw [pcode1 hn99 hc114]
              simp only [jumped_none, jumped_some]
              obtain ⟨p115, hp115, h⟩ := bindo h
              obtain ⟨p116, hp116, h⟩ := bindo h
              obtain ⟨p117, hp117, h⟩ := bindo h
              cases h
              exact q_ret rfl at_.at_ hp115 (resL1 rfl (.cell rfl hp116 sc4 (ldB_out hp117))) ⟨rfl, rfl⟩
            · cases h
def J0 (D : Dp) (H : Hd) (k : Nat) (y0 : Sl) (y1 : (List UInt8)) (y4 : (Option HA)) (y24 : Bool) (ds : List Nat) (S : HS) : Option ((Bool) × HS) :=
  (if y24 = true then
  (Option.bind (y4) fun p9 =>
  (Option.bind (HS.sets S p9 [(.bool true)]) fun p10 =>
  (Option.bind (HS.leave p10 ds) fun p11 =>
  (Option.bind (y4) fun p12 =>
  (Option.bind (HS.ldB p11 p12) fun p13 =>
  some (p13, p11)))))) else
  (Option.bind (book_New_string.f 100 S) fun p14 =>
  (letv (HS.new p14.2 (.cells 1 [[(.ptr none)]] true)) fun p15 =>
  (Option.bind (HS.sets p15 (HA.cell0 p14.2.next) [(.ptr p14.1.1)]) fun p16 =>
  (if (!decide (p14.1.2 = 0)) = true then
  (Option.bind (y4) fun p18 =>
  (Option.bind (HS.sets p16 p18 [(.bool false)]) fun p19 =>
  (Option.bind (HS.leave p19 ds) fun p20 =>
  (Option.bind (y4) fun p21 =>
  (Option.bind (HS.ldB p20 p21) fun p22 =>
  some (p22, p20)))))) else
  L1 D H k k y0 y1 y4 (some (HA.cell0 p14.2.next)) 0 ds p16)))))
theorem J0_snd {D : Dp} {H : Hd} {k : Nat} (hD : DSound Try.prog base W0 D) (hH : HSound Try.prog base W0 β0 H)  {y0 : Sl} {y1 : (List UInt8)} {y4 : (Option HA)} {y24 : Bool} {ds : List Nat} {S : HS} {p : (Bool) × HS} {g2 g3 g5 g6 g7 g8 g9 g10 g11 g12 g13 g14 g15 g16 g17 g18 g19 g20 g21 g22 g23 g25 g26 g27 g28 g29 g30 g31 g32 g33 g34 g35 g36 g37 g38 g39 g40 g41 g42 g43 g44 g45 g46 g47 g48 g49 g50 g51 g52 g53 g54 g55 g56 g57 g58 g59 g60 g61 g62 g63 g64 g65 g66 g67 g68 g69 g70 g71 g72 g73 g74 g75 g76 g77 g78 g79 g80 g81 g82 g83 g84 g85 g86 g87 g88 g89 g90 g91 g92 g93 g94 g95 g96 g97 g98 g99 g100 : HV} (h : J0 D H k y0 y1 y4 y24 ds S = some p) : HRun Try.prog base W0 β0 4 none [.code c13, .code c18] ⟨[(Sl.hv y0), (.str y1), g2, g3, (.ptr y4), g5, g6, g7, g8, g9, g10, g11, g12, g13, g14, g15, g16, g17, g18, g19, g20, g21, g22, g23, (.bool y24), g25, g26, g27, g28, g29, g30, g31, g32, g33, g34, g35, g36, g37, g38, g39, g40, g41, g42, g43, g44, g45, g46, g47, g48, g49, g50, g51, g52, g53, g54, g55, g56, g57, g58, g59, g60, g61, g62, g63, g64, g65, g66, g67, g68, g69, g70, g71, g72, g73, g74, g75, g76, g77, g78, g79, g80, g81, g82, g83, g84, g85, g86, g87, g88, g89, g90, g91, g92, g93, g94, g95, g96, g97, g98, g99, g100], ds⟩ S (fun v S1 => v = (.bool p.1) ∧ S1 = p.2) := by
  unfold J0 at h
  rcases ifc h with ⟨hc8, h⟩ | ⟨hc8, h⟩
  · refine q_cond_t e13 (.tmp rfl) hc8 ?_
    refine q_seq e14 ?_
    refine q_region e15 rfl ?_
    obtain ⟨p9, hp9, h⟩ := bindo h
    obtain ⟨p10, hp10, h⟩ := bindo h
    refine q_op (dst := none) rfl (fun _ ho => ok_store_s (v := (.bool true)) ho sz4 (.tmp rfl) hp9 (.bool _) rfl hp10) ?_
    refine hr_region_end ?_
    try dsimp only [HAct.put, List.set_cons_zero, List.set_cons_succ]
    obtain ⟨p11, hp11, h⟩ := bindo h
    obtain ⟨p12, hp12, h⟩ := bindo h
    obtain ⟨p13, hp13, h⟩ := bindo h
    cases h
    exact q_ret e16 at_.at_ hp11 (resL1 rfl (.cell rfl hp12 sc4 (ldB_out hp13))) ⟨rfl, rfl⟩
  · refine q_cond_f e13 (.tmp rfl) (bfalse hc8) ?_
    refine q_skipc e17 ?_
    refine q_seq e18 ?_
    refine q_region e19 rfl ?_
    obtain ⟨p14, hp14, h⟩ := bindo h
    refine q_call (dst := some 26) rfl (.func _) (.cons (.int _ _) Evs.nil) (HInv.static book_New_string.at_ book_New_string.body (book_New_string.snd  hp14)) ?_
    rintro _ _ ⟨rfl, rfl⟩
    refine q_op (dst := some 25) rfl (fun _ ho => ok_move ho (.tmp rfl)) ?_
    refine q_op (dst := some 27) rfl (fun _ ho => ok_extract ho (.tmp rfl) rfl) ?_
    refine q_op (dst := some 28) rfl (fun _ ho => ok_extract ho (.tmp rfl) rfl) ?_
    try dsimp only [HAct.put, List.set_cons_zero, List.set_cons_succ]
    obtain ⟨p15, hp15, h⟩ := leto h
    refine q_op (dst := some 5) rfl (fun _ ho => ok_alloc_e ho zi33 zr33 (by decide) rfl hp15) ?_
    obtain ⟨p16, hp16, h⟩ := bindo h
    refine q_op (dst := none) rfl (fun _ ho => ok_store_s (v := (.ptr p14.1.1)) ho sz33 (.tmp rfl) rfl (.tmp rfl) rfl hp16) ?_
    refine q_op (dst := some 6) rfl (fun _ ho => ok_assign ho (.tmp rfl)) ?_
    refine hr_region_end ?_
    try dsimp only [HAct.put, List.set_cons_zero, List.set_cons_succ]
    refine q_seq e20 ?_
    refine q_seq e21 ?_
    refine q_region e22 rfl ?_
    refine q_op (dst := some 29) rfl (fun _ ho => ok_move ho (.tmp rfl)) ?_
    refine q_op (dst := some 30) rfl (fun _ ho => ok_ibin ho (.tmp rfl) (.int _ _) rfl) ?_
    refine hr_region_end ?_
    try dsimp only [HAct.put, List.set_cons_zero, List.set_cons_succ]
    rcases ifc h with ⟨hc17, h⟩ | ⟨hc17, h⟩
    · refine q_cond_t e23 (.tmp rfl) hc17 ?_
      refine q_seq e24 ?_
      refine q_region e25 rfl ?_
      obtain ⟨p18, hp18, h⟩ := bindo h
      obtain ⟨p19, hp19, h⟩ := bindo h
      refine q_op (dst := none) rfl (fun _ ho => ok_store_s (v := (.bool false)) ho sz4 (.tmp rfl) hp18 (.bool _) rfl hp19) ?_
      refine hr_region_end ?_
      try dsimp only [HAct.put, List.set_cons_zero, List.set_cons_succ]
      obtain ⟨p20, hp20, h⟩ := bindo h
      obtain ⟨p21, hp21, h⟩ := bindo h
      obtain ⟨p22, hp22, h⟩ := bindo h
      cases h
      exact q_ret e26 at_.at_ hp20 (resL1 rfl (.cell rfl hp21 sc4 (ldB_out hp22))) ⟨rfl, rfl⟩
    · refine q_cond_f e23 (.tmp rfl) (bfalse hc17) ?_
      refine q_skipc e27 ?_
      refine q_seq e28 ?_
      refine q_seq e29 ?_
      refine q_region e30 rfl ?_
      refine q_op (dst := some 7) rfl (fun _ ho => ok_assign ho (.int _ _)) ?_
      refine hr_region_end ?_
      try dsimp only [HAct.put, List.set_cons_zero, List.set_cons_succ]
      refine q_block e31 ?_
      refine q_loop e32 ?_
      try dsimp only [HAct.put, List.set_cons_zero, List.set_cons_succ]
      exact L1_snd hD hH h
def f (D : Dp) (H : Hd) (k : Nat) (x0 : Sl) (x1 : (List UInt8)) (S : HS) : Option ((Bool) × HS) :=
  (letv (HS.new S (.cells 1 [[(.bool false)]] true)) fun p1 =>
  (Option.bind (rollcalllaw02_awake.f D H k p1) fun p2 =>
  (if (!p2.1) = true then
  (Option.bind (HS.sets p2.2 (HA.cell0 S.next) [(.bool false)]) fun p4 =>
  (Option.bind (HS.leave p4 []) fun p5 =>
  (Option.bind (HS.ldB p5 (HA.cell0 S.next)) fun p6 =>
  some (p6, p5)))) else
  (if (Sl.len x0 : Int) > 40 then
  J0 D H k x0 x1 (some (HA.cell0 S.next)) true [] p2.2 else
  J0 D H k x0 x1 (some (HA.cell0 S.next)) (decide ((List.length x1 : Int) > 30)) [] p2.2))))
theorem snd {D : Dp} {H : Hd} {k : Nat} {x0 : Sl} {x1 : (List UInt8)} {S : HS} (hD : DSound Try.prog base W0 D) (hH : HSound Try.prog base W0 β0 H)  {p : (Bool) × HS} (h : f D H k x0 x1 S = some p) : HCall Try.prog base W0 β0 4 [(Sl.hv x0), (.str x1)] S (fun v S1 => v = (.bool p.1) ∧ S1 = p.2) := by
  unfold f at h
  refine HCall.of_run at_.at_ body ?_
  show HRun Try.prog base W0 β0 4 none [.code c0] ⟨[(Sl.hv x0), (.str x1), .tup [], .tup [], .tup [], .tup [], .tup [], .tup [], .tup [], .tup [], .tup [], .tup [], .tup [], .tup [], .tup [], .tup [], .tup [], .tup [], .tup [], .tup [], .tup [], .tup [], .tup [], .tup [], .tup [], .tup [], .tup [], .tup [], .tup [], .tup [], .tup [], .tup [], .tup [], .tup [], .tup [], .tup [], .tup [], .tup [], .tup [], .tup [], .tup [], .tup [], .tup [], .tup [], .tup [], .tup [], .tup [], .tup [], .tup [], .tup [], .tup [], .tup [], .tup [], .tup [], .tup [], .tup [], .tup [], .tup [], .tup [], .tup [], .tup [], .tup [], .tup [], .tup [], .tup [], .tup [], .tup [], .tup [], .tup [], .tup [], .tup [], .tup [], .tup [], .tup [], .tup [], .tup [], .tup [], .tup [], .tup [], .tup [], .tup [], .tup [], .tup [], .tup [], .tup [], .tup [], .tup [], .tup [], .tup [], .tup [], .tup [], .tup [], .tup [], .tup [], .tup [], .tup [], .tup [], .tup [], .tup [], .tup [], .tup []], []⟩ S _
  refine q_seq e0 ?_
  refine q_region e1 rfl ?_
  obtain ⟨p1, hp1, h⟩ := leto h
  refine q_op (dst := some 4) rfl (fun _ ho => ok_alloc_e ho zi4 zr4 (by decide) rfl hp1) ?_
  refine hr_region_end ?_
  try dsimp only [HAct.put, List.set_cons_zero, List.set_cons_succ]
  refine q_seq e2 ?_
  refine q_seq e3 ?_
  refine q_region e4 rfl ?_
  obtain ⟨p2, hp2, h⟩ := bindo h
  refine q_call (dst := some 15) rfl (.func _) Evs.nil (HInv.static rollcalllaw02_awake.at_ rollcalllaw02_awake.body (rollcalllaw02_awake.snd hD hH hp2)) ?_
  rintro _ _ ⟨rfl, rfl⟩
  refine q_op (dst := some 16) rfl (fun _ ho => ok_not ho (.tmp rfl)) ?_
  refine hr_region_end ?_
  try dsimp only [HAct.put, List.set_cons_zero, List.set_cons_succ]
  rcases ifc h with ⟨hc3, h⟩ | ⟨hc3, h⟩
  · refine q_cond_t e5 (.tmp rfl) hc3 ?_
    refine q_seq e6 ?_
    refine q_region e7 rfl ?_
    obtain ⟨p4, hp4, h⟩ := bindo h
    refine q_op (dst := none) rfl (fun _ ho => ok_store_s (v := (.bool false)) ho sz4 (.tmp rfl) rfl (.bool _) rfl hp4) ?_
    refine hr_region_end ?_
    try dsimp only [HAct.put, List.set_cons_zero, List.set_cons_succ]
    obtain ⟨p5, hp5, h⟩ := bindo h
    obtain ⟨p6, hp6, h⟩ := bindo h
    cases h
    exact q_ret e8 at_.at_ hp5 (resL1 rfl (.cell rfl rfl sc4 (ldB_out hp6))) ⟨rfl, rfl⟩
  · refine q_cond_f e5 (.tmp rfl) (bfalse hc3) ?_
    refine q_skipc e9 ?_
    refine q_seq e10 ?_
    refine q_seq e11 ?_
    refine q_region e12 rfl ?_
    refine q_op (dst := some 17) rfl (fun _ ho => ok_move ho (.tmp rfl)) ?_
    refine q_op (dst := some 18) rfl (fun _ ho => ok_len_sl (q := Sl.a x0) (n := Sl.len x0) (z := Sl.cap x0) ho rfl tu32 (.tmp rfl)) ?_
    refine q_op (dst := some 19) rfl (fun _ ho => ok_ibin ho (.tmp rfl) (.int _ _) rfl) ?_
    refine q_op (dst := some 20) rfl (fun _ ho => ok_move ho (.tmp rfl)) ?_
    try dsimp only [HAct.put, List.set_cons_zero, List.set_cons_succ]
    rcases ifc h with ⟨hc7, h⟩ | ⟨hc7, h⟩
    · refine q_skip (dst := some 21) (t := 20) rfl rfl rfl (decide_eq_true hc7) ?_
      refine q_skip (dst := some 22) (t := 20) rfl rfl rfl (decide_eq_true hc7) ?_
      refine q_skip (dst := some 23) (t := 20) rfl rfl rfl (decide_eq_true hc7) ?_
      refine q_op (dst := some 24) rfl (fun _ ho => ok_pick_tt ho (.tmp rfl) (decide_eq_true hc7) (.bool _)) ?_
      refine hr_region_end ?_
      try dsimp only [HAct.put, List.set_cons_zero, List.set_cons_succ]
      try dsimp only [HAct.put, List.set_cons_zero, List.set_cons_succ]
      exact J0_snd hD hH h
    · refine q_op_g (t := 20) (dst := some 21) rfl rfl rfl (decide_eq_false hc7) (fun _ ho => ok_move ho (.tmp rfl)) ?_
      refine q_op_g (t := 20) (dst := some 22) rfl rfl rfl (decide_eq_false hc7) (fun _ ho => ok_len_str ho rfl tu9 (.tmp rfl)) ?_
      refine q_op_g (t := 20) (dst := some 23) rfl rfl rfl (decide_eq_false hc7) (fun _ ho => ok_ibin ho (.tmp rfl) (.int _ _) rfl) ?_
      refine q_op (dst := some 24) rfl (fun _ ho => ok_pick_ff ho (.tmp rfl) (decide_eq_false hc7) (.tmp rfl)) ?_
      refine hr_region_end ?_
      try dsimp only [HAct.put, List.set_cons_zero, List.set_cons_succ]
      try dsimp only [HAct.put, List.set_cons_zero, List.set_cons_succ]
      exact J0_snd hD hH h
end
end rollcalllaw02_BookStays
section
variable {base : Nat} {W0 : World} {β0 : Bt}
def call_59 (D : Dp) (H : Hd) (k : Nat) (vs : List HV) (S : HS) : Option (HV × HS) :=
  Option.bind (args2 vs) fun a =>
  Option.bind (dA2 a.1) fun p0 =>
  Option.bind (dS p0.1) fun p1 =>
  Option.bind (dI .i64 p0.2) fun p2 =>
  Option.bind (dS a.2) fun p3 =>
  Option.bind (book_Book_int_at_1.f k p1 p2 p3 S) fun q =>
  some ((.int .i64 q.1), q.2)
theorem call_59_snd {D : Dp} {H : Hd} {k : Nat} (hD : DSound Try.prog base W0 D) (hH : HSound Try.prog base W0 β0 H) {vs : List HV} {S : HS} {p : HV × HS} (h : call_59 D H k vs S = some p) : HCall Try.prog base W0 β0 59 vs S (fun v1 S1 => v1 = p.1 ∧ S1 = p.2) := by
  unfold call_59 at h
  obtain ⟨a, ha, h⟩ := bindo h
  obtain ⟨p0, hp0, h⟩ := bindo h
  obtain ⟨p1, hp1, h⟩ := bindo h
  obtain ⟨p2, hp2, h⟩ := bindo h
  obtain ⟨p3, hp3, h⟩ := bindo h
  obtain ⟨q, hq, h⟩ := bindo h
  rw [args2_out ha, dA2_out hp0, dS_out hp1, dI_out hp2, dS_out hp3]
  cases h
  exact book_Book_int_at_1.snd hq
def call_53 (D : Dp) (H : Hd) (k : Nat) (vs : List HV) (S : HS) : Option (HV × HS) :=
  Option.bind (args2 vs) fun a =>
  Option.bind (dA2 a.1) fun p0 =>
  Option.bind (dS p0.1) fun p1 =>
  Option.bind (dS p0.2) fun p2 =>
  Option.bind (dS a.2) fun p3 =>
  Option.bind (book_Book_string_at_1.f k p1 p2 p3 S) fun q =>
  some ((.int .i64 q.1), q.2)
theorem call_53_snd {D : Dp} {H : Hd} {k : Nat} (hD : DSound Try.prog base W0 D) (hH : HSound Try.prog base W0 β0 H) {vs : List HV} {S : HS} {p : HV × HS} (h : call_53 D H k vs S = some p) : HCall Try.prog base W0 β0 53 vs S (fun v1 S1 => v1 = p.1 ∧ S1 = p.2) := by
  unfold call_53 at h
  obtain ⟨a, ha, h⟩ := bindo h
  obtain ⟨p0, hp0, h⟩ := bindo h
  obtain ⟨p1, hp1, h⟩ := bindo h
  obtain ⟨p2, hp2, h⟩ := bindo h
  obtain ⟨p3, hp3, h⟩ := bindo h
  obtain ⟨q, hq, h⟩ := bindo h
  rw [args2_out ha, dA2_out hp0, dS_out hp1, dS_out hp2, dS_out hp3]
  cases h
  exact book_Book_string_at_1.snd hq
def call_56 (D : Dp) (H : Hd) (k : Nat) (vs : List HV) (S : HS) : Option (HV × HS) :=
  Option.bind (args2 vs) fun a =>
  Option.bind (dF a.1) fun p0 =>
  Option.bind (dP a.2) fun p1 =>
  Option.bind (book_told_string_1.f D H k p0 p1 S) fun q =>
  some (.tup [], q.2)
theorem call_56_snd {D : Dp} {H : Hd} {k : Nat} (hD : DSound Try.prog base W0 D) (hH : HSound Try.prog base W0 β0 H) {vs : List HV} {S : HS} {p : HV × HS} (h : call_56 D H k vs S = some p) : HCall Try.prog base W0 β0 56 vs S (fun v1 S1 => v1 = p.1 ∧ S1 = p.2) := by
  unfold call_56 at h
  obtain ⟨a, ha, h⟩ := bindo h
  obtain ⟨p0, hp0, h⟩ := bindo h
  obtain ⟨p1, hp1, h⟩ := bindo h
  obtain ⟨q, hq, h⟩ := bindo h
  rw [args2_out ha, dF_out hp0, dP_out hp1]
  cases h
  exact book_told_string_1.snd hD hH hq
def call_36 (D : Dp) (H : Hd) (k : Nat) (vs : List HV) (S : HS) : Option (HV × HS) :=
  Option.bind (args1 vs) fun a =>
  Option.bind (dF a) fun p0 =>
  Option.bind (book_Book_string_All_1.f p0) fun q =>
  some (.tup [], S)
theorem call_36_snd {D : Dp} {H : Hd} {k : Nat} (hD : DSound Try.prog base W0 D) (hH : HSound Try.prog base W0 β0 H) {vs : List HV} {S : HS} {p : HV × HS} (h : call_36 D H k vs S = some p) : HCall Try.prog base W0 β0 36 vs S (fun v1 S1 => v1 = p.1 ∧ S1 = p.2) := by
  unfold call_36 at h
  obtain ⟨a, ha, h⟩ := bindo h
  obtain ⟨p0, hp0, h⟩ := bindo h
  obtain ⟨q, hq, h⟩ := bindo h
  rw [args1_out ha, dF_out hp0]
  cases h
  exact book_Book_string_All_1.snd hq
def disp (k : Nat) : Nat → Dp
  | 0 => fun _ _ _ _ => none
  | n + 1 => fun H fv vs S => match fv with
    | .fn (.yield l) [] [] => Option.bind (H l) fun r => r vs S
    | .fn (.func f) xs ys => if f = 59 then call_59 (disp k n) H k (xs ++ vs ++ ys) S else if f = 53 then call_53 (disp k n) H k (xs ++ vs ++ ys) S else if f = 56 then call_56 (disp k n) H k (xs ++ vs ++ ys) S else if f = 36 then call_36 (disp k n) H k (xs ++ vs ++ ys) S else none
    | _ => none
theorem disp_func {k n : Nat} {H : Hd} {f : Nat} {xs ys vs : List HV} {S : HS} : disp k (n + 1) H (.fn (.func f) xs ys) vs S = (if f = 59 then call_59 (disp k n) H k (xs ++ vs ++ ys) S else if f = 53 then call_53 (disp k n) H k (xs ++ vs ++ ys) S else if f = 56 then call_56 (disp k n) H k (xs ++ vs ++ ys) S else if f = 36 then call_36 (disp k n) H k (xs ++ vs ++ ys) S else none) := rfl
theorem disp_yield {k n : Nat} {H : Hd} {l : Nat} {vs : List HV} {S : HS} : disp k (n + 1) H (.fn (.yield l) [] []) vs S = Option.bind (H l) fun r => r vs S := rfl
theorem disp_snd {k : Nat} : ∀ n, DSound Try.prog base W0 (disp k n) := by
  intro n
  induction n with
  | zero => intro _ _ _ _ _ _ _ _ h; cases h
  | succ n ih =>
    intro β0 H hH fv vs S v S' h
    unfold disp at h
    split at h
    · obtain ⟨r, hr, h⟩ := bindo h
      exact hH _ _ hr _ _ _ _ h
    · skip
      rcases ifc h with ⟨hf, h⟩ | ⟨hf, h⟩
      · subst hf; exact HInv.func book_Book_int_at_1.at_ book_Book_int_at_1.body (call_59_snd (k := k) ih hH h)
      rcases ifc h with ⟨hf, h⟩ | ⟨hf, h⟩
      · subst hf; exact HInv.func book_Book_string_at_1.at_ book_Book_string_at_1.body (call_53_snd (k := k) ih hH h)
      rcases ifc h with ⟨hf, h⟩ | ⟨hf, h⟩
      · subst hf; exact HInv.func book_told_string_1.at_ book_told_string_1.body (call_56_snd (k := k) ih hH h)
      rcases ifc h with ⟨hf, h⟩ | ⟨hf, h⟩
      · subst hf; exact HInv.func book_Book_string_All_1.at_ book_Book_string_All_1.body (call_36_snd (k := k) ih hH h)
      cases h
    · cases h
end
end Go.Proofs.Ytlfdaflngmkldaa.X
