/- Functions of the program, each as a Lean function over the layer HL: a call answers what the Lean function answers, where it answers. -/
import Derived.Test.YtpdainofeaombaaProg
import Derived.Test.YtpdainofeaombaaStAll2
namespace Go.Proofs.Ytpdainofeaombaa.X
open Go.Proofs.Ytpdainofeaombaa.HL
set_option linter.unusedVariables false
set_option linter.unusedSimpArgs false
set_option maxRecDepth 20000
set_option maxHeartbeats 4000000
namespace rollcalllaw10_SetUnions
abbrev id : Nat := 3
theorem at_ : FnAt Try.prog 3 Try.f3 := ⟨Try.func3, by kernel_rfl⟩
noncomputable def c0 : Code := (Try.f3.body).getD .skip
noncomputable def c1 : Code := match c0 with | .seq x _ => x | _ => .skip
noncomputable def c2 : Code := match c0 with | .seq _ x => x | _ => .skip
noncomputable def c3 : Code := match c2 with | .seq x _ => x | _ => .skip
noncomputable def c4 : Code := match c3 with | .seq x _ => x | _ => .skip
noncomputable def c5 : Code := match c3 with | .seq _ x => x | _ => .skip
noncomputable def c6 : Code := match c5 with | .cond _ x _ => x | _ => .skip
noncomputable def c7 : Code := match c6 with | .seq x _ => x | _ => .skip
noncomputable def c8 : Code := match c6 with | .seq _ x => x | _ => .skip
noncomputable def c9 : Code := match c5 with | .cond _ _ x => x | _ => .skip
noncomputable def c10 : Code := match c2 with | .seq _ x => x | _ => .skip
noncomputable def c11 : Code := match c10 with | .seq x _ => x | _ => .skip
noncomputable def c12 : Code := match c11 with | .seq x _ => x | _ => .skip
noncomputable def c13 : Code := match c11 with | .seq _ x => x | _ => .skip
noncomputable def c14 : Code := match c13 with | .cond _ x _ => x | _ => .skip
noncomputable def c15 : Code := match c14 with | .seq x _ => x | _ => .skip
noncomputable def c16 : Code := match c14 with | .seq _ x => x | _ => .skip
noncomputable def c17 : Code := match c13 with | .cond _ _ x => x | _ => .skip
noncomputable def c18 : Code := match c10 with | .seq _ x => x | _ => .skip
noncomputable def c19 : Code := match c18 with | .seq x _ => x | _ => .skip
noncomputable def c20 : Code := match c18 with | .seq _ x => x | _ => .skip
noncomputable def c21 : Code := match c20 with | .seq x _ => x | _ => .skip
noncomputable def c22 : Code := match c20 with | .seq _ x => x | _ => .skip
noncomputable def c23 : Code := match c22 with | .seq x _ => x | _ => .skip
noncomputable def c24 : Code := match c23 with | .seq x _ => x | _ => .skip
noncomputable def c25 : Code := match c23 with | .seq _ x => x | _ => .skip
noncomputable def c26 : Code := match c25 with | .block _ x => x | _ => .skip
noncomputable def c27 : Code := match c26 with | .loop x => x | _ => .skip
noncomputable def c28 : Code := match c27 with | .seq x _ => x | _ => .skip
noncomputable def c29 : Code := match c28 with | .seq x _ => x | _ => .skip
noncomputable def c30 : Code := match c28 with | .seq _ x => x | _ => .skip
noncomputable def c31 : Code := match c30 with | .cond _ x _ => x | _ => .skip
noncomputable def c32 : Code := match c30 with | .cond _ _ x => x | _ => .skip
noncomputable def c33 : Code := match c27 with | .seq _ x => x | _ => .skip
noncomputable def c34 : Code := match c33 with | .seq x _ => x | _ => .skip
noncomputable def c35 : Code := match c34 with | .block _ x => x | _ => .skip
noncomputable def c36 : Code := match c35 with | .seq x _ => x | _ => .skip
noncomputable def c37 : Code := match c36 with | .seq x _ => x | _ => .skip
noncomputable def c38 : Code := match c36 with | .seq _ x => x | _ => .skip
noncomputable def c39 : Code := match c38 with | .cond _ x _ => x | _ => .skip
noncomputable def c40 : Code := match c39 with | .seq x _ => x | _ => .skip
noncomputable def c41 : Code := match c39 with | .seq _ x => x | _ => .skip
noncomputable def c42 : Code := match c38 with | .cond _ _ x => x | _ => .skip
noncomputable def c43 : Code := match c35 with | .seq _ x => x | _ => .skip
noncomputable def c44 : Code := match c43 with | .seq x _ => x | _ => .skip
noncomputable def c45 : Code := match c43 with | .seq _ x => x | _ => .skip
noncomputable def c46 : Code := match c33 with | .seq _ x => x | _ => .skip
noncomputable def c47 : Code := match c22 with | .seq _ x => x | _ => .skip
noncomputable def c48 : Code := match c47 with | .seq x _ => x | _ => .skip
noncomputable def c49 : Code := match c47 with | .seq _ x => x | _ => .skip
noncomputable def c50 : Code := match c49 with | .seq x _ => x | _ => .skip
noncomputable def c51 : Code := match c49 with | .seq _ x => x | _ => .skip
noncomputable def c52 : Code := match c51 with | .seq x _ => x | _ => .skip
noncomputable def c53 : Code := match c51 with | .seq _ x => x | _ => .skip
noncomputable def c54 : Code := match c53 with | .seq x _ => x | _ => .skip
noncomputable def c55 : Code := match c54 with | .seq x _ => x | _ => .skip
noncomputable def c56 : Code := match c54 with | .seq _ x => x | _ => .skip
noncomputable def c57 : Code := match c56 with | .cond _ x _ => x | _ => .skip
noncomputable def c58 : Code := match c57 with | .seq x _ => x | _ => .skip
noncomputable def c59 : Code := match c57 with | .seq _ x => x | _ => .skip
noncomputable def c60 : Code := match c56 with | .cond _ _ x => x | _ => .skip
noncomputable def c61 : Code := match c53 with | .seq _ x => x | _ => .skip
noncomputable def c62 : Code := match c61 with | .seq x _ => x | _ => .skip
noncomputable def c63 : Code := match c62 with | .seq x _ => x | _ => .skip
noncomputable def c64 : Code := match c62 with | .seq _ x => x | _ => .skip
noncomputable def c65 : Code := match c64 with | .block _ x => x | _ => .skip
noncomputable def c66 : Code := match c65 with | .loop x => x | _ => .skip
noncomputable def c67 : Code := match c66 with | .seq x _ => x | _ => .skip
noncomputable def c68 : Code := match c67 with | .seq x _ => x | _ => .skip
noncomputable def c69 : Code := match c67 with | .seq _ x => x | _ => .skip
noncomputable def c70 : Code := match c69 with | .cond _ x _ => x | _ => .skip
noncomputable def c71 : Code := match c69 with | .cond _ _ x => x | _ => .skip
noncomputable def c72 : Code := match c66 with | .seq _ x => x | _ => .skip
noncomputable def c73 : Code := match c72 with | .seq x _ => x | _ => .skip
noncomputable def c74 : Code := match c73 with | .block _ x => x | _ => .skip
noncomputable def c75 : Code := match c74 with | .seq x _ => x | _ => .skip
noncomputable def c76 : Code := match c74 with | .seq _ x => x | _ => .skip
noncomputable def c77 : Code := match c76 with | .seq x _ => x | _ => .skip
noncomputable def c78 : Code := match c77 with | .seq x _ => x | _ => .skip
noncomputable def c79 : Code := match c77 with | .seq _ x => x | _ => .skip
noncomputable def c80 : Code := match c79 with | .block _ x => x | _ => .skip
noncomputable def c81 : Code := match c80 with | .loop x => x | _ => .skip
noncomputable def c82 : Code := match c81 with | .seq x _ => x | _ => .skip
noncomputable def c83 : Code := match c82 with | .seq x _ => x | _ => .skip
noncomputable def c84 : Code := match c82 with | .seq _ x => x | _ => .skip
noncomputable def c85 : Code := match c84 with | .cond _ x _ => x | _ => .skip
noncomputable def c86 : Code := match c84 with | .cond _ _ x => x | _ => .skip
noncomputable def c87 : Code := match c81 with | .seq _ x => x | _ => .skip
noncomputable def c88 : Code := match c87 with | .seq x _ => x | _ => .skip
noncomputable def c89 : Code := match c88 with | .block _ x => x | _ => .skip
noncomputable def c90 : Code := match c87 with | .seq _ x => x | _ => .skip
noncomputable def c91 : Code := match c76 with | .seq _ x => x | _ => .skip
noncomputable def c92 : Code := match c91 with | .seq x _ => x | _ => .skip
noncomputable def c93 : Code := match c91 with | .seq _ x => x | _ => .skip
noncomputable def c94 : Code := match c93 with | .cond _ x _ => x | _ => .skip
noncomputable def c95 : Code := match c94 with | .seq x _ => x | _ => .skip
noncomputable def c96 : Code := match c94 with | .seq _ x => x | _ => .skip
noncomputable def c97 : Code := match c93 with | .cond _ _ x => x | _ => .skip
noncomputable def c98 : Code := match c72 with | .seq _ x => x | _ => .skip
noncomputable def c99 : Code := match c61 with | .seq _ x => x | _ => .skip
noncomputable def c100 : Code := match c99 with | .seq x _ => x | _ => .skip
noncomputable def c101 : Code := match c99 with | .seq _ x => x | _ => .skip
theorem e0 : c0 = .seq c1 c2 := by kernel_rfl
noncomputable def r1 : Array Oper := match c1 with | .region _ x _ => x | _ => #[]
theorem e1 : c1 = .region 0 r1 false := by kernel_rfl
theorem e2 : c2 = .seq c3 c10 := by kernel_rfl
theorem e3 : c3 = .seq c4 c5 := by kernel_rfl
noncomputable def r4 : Array Oper := match c4 with | .region _ x _ => x | _ => #[]
theorem e4 : c4 = .region 1 r4 false := by kernel_rfl
theorem e5 : c5 = .cond (.tmp 17) c6 c9 := by kernel_rfl
theorem e6 : c6 = .seq c7 c8 := by kernel_rfl
noncomputable def r7 : Array Oper := match c7 with | .region _ x _ => x | _ => #[]
theorem e7 : c7 = .region 2 r7 false := by kernel_rfl
theorem e8 : c8 = .ret := by kernel_rfl
theorem e9 : c9 = .skip := by kernel_rfl
theorem e10 : c10 = .seq c11 c18 := by kernel_rfl
theorem e11 : c11 = .seq c12 c13 := by kernel_rfl
noncomputable def r12 : Array Oper := match c12 with | .region _ x _ => x | _ => #[]
theorem e12 : c12 = .region 3 r12 false := by kernel_rfl
theorem e13 : c13 = .cond (.tmp 20) c14 c17 := by kernel_rfl
theorem e14 : c14 = .seq c15 c16 := by kernel_rfl
noncomputable def r15 : Array Oper := match c15 with | .region _ x _ => x | _ => #[]
theorem e15 : c15 = .region 4 r15 false := by kernel_rfl
theorem e16 : c16 = .ret := by kernel_rfl
theorem e17 : c17 = .skip := by kernel_rfl
theorem e18 : c18 = .seq c19 c20 := by kernel_rfl
noncomputable def r19 : Array Oper := match c19 with | .region _ x _ => x | _ => #[]
theorem e19 : c19 = .region 5 r19 false := by kernel_rfl
theorem e20 : c20 = .seq c21 c22 := by kernel_rfl
noncomputable def r21 : Array Oper := match c21 with | .region _ x _ => x | _ => #[]
theorem e21 : c21 = .region 6 r21 false := by kernel_rfl
theorem e22 : c22 = .seq c23 c47 := by kernel_rfl
theorem e23 : c23 = .seq c24 c25 := by kernel_rfl
noncomputable def r24 : Array Oper := match c24 with | .region _ x _ => x | _ => #[]
theorem e24 : c24 = .region 7 r24 false := by kernel_rfl
theorem e25 : c25 = .block 0 c26 := by kernel_rfl
theorem e26 : c26 = .loop c27 := by kernel_rfl
theorem e27 : c27 = .seq c28 c33 := by kernel_rfl
theorem e28 : c28 = .seq c29 c30 := by kernel_rfl
noncomputable def r29 : Array Oper := match c29 with | .region _ x _ => x | _ => #[]
theorem e29 : c29 = .region 8 r29 false := by kernel_rfl
theorem e30 : c30 = .cond (.tmp 24) c31 c32 := by kernel_rfl
theorem e31 : c31 = .skip := by kernel_rfl
theorem e32 : c32 = .exit 0 := by kernel_rfl
theorem e33 : c33 = .seq c34 c46 := by kernel_rfl
theorem e34 : c34 = .block 1 c35 := by kernel_rfl
theorem e35 : c35 = .seq c36 c43 := by kernel_rfl
theorem e36 : c36 = .seq c37 c38 := by kernel_rfl
noncomputable def r37 : Array Oper := match c37 with | .region _ x _ => x | _ => #[]
theorem e37 : c37 = .region 10 r37 false := by kernel_rfl
theorem e38 : c38 = .cond (.tmp 32) c39 c42 := by kernel_rfl
theorem e39 : c39 = .seq c40 c41 := by kernel_rfl
noncomputable def r40 : Array Oper := match c40 with | .region _ x _ => x | _ => #[]
theorem e40 : c40 = .region 11 r40 false := by kernel_rfl
theorem e41 : c41 = .ret := by kernel_rfl
theorem e42 : c42 = .skip := by kernel_rfl
theorem e43 : c43 = .seq c44 c45 := by kernel_rfl
noncomputable def r44 : Array Oper := match c44 with | .region _ x _ => x | _ => #[]
theorem e44 : c44 = .region 12 r44 false := by kernel_rfl
noncomputable def r45 : Array Oper := match c45 with | .region _ x _ => x | _ => #[]
theorem e45 : c45 = .region 13 r45 false := by kernel_rfl
noncomputable def r46 : Array Oper := match c46 with | .region _ x _ => x | _ => #[]
theorem e46 : c46 = .region 9 r46 false := by kernel_rfl
theorem e47 : c47 = .seq c48 c49 := by kernel_rfl
noncomputable def r48 : Array Oper := match c48 with | .region _ x _ => x | _ => #[]
theorem e48 : c48 = .region 14 r48 false := by kernel_rfl
theorem e49 : c49 = .seq c50 c51 := by kernel_rfl
noncomputable def r50 : Array Oper := match c50 with | .region _ x _ => x | _ => #[]
theorem e50 : c50 = .region 15 r50 false := by kernel_rfl
theorem e51 : c51 = .seq c52 c53 := by kernel_rfl
noncomputable def r52 : Array Oper := match c52 with | .region _ x _ => x | _ => #[]
theorem e52 : c52 = .region 16 r52 false := by kernel_rfl
theorem e53 : c53 = .seq c54 c61 := by kernel_rfl
theorem e54 : c54 = .seq c55 c56 := by kernel_rfl
noncomputable def r55 : Array Oper := match c55 with | .region _ x _ => x | _ => #[]
theorem e55 : c55 = .region 17 r55 false := by kernel_rfl
theorem e56 : c56 = .cond (.tmp 82) c57 c60 := by kernel_rfl
theorem e57 : c57 = .seq c58 c59 := by kernel_rfl
noncomputable def r58 : Array Oper := match c58 with | .region _ x _ => x | _ => #[]
theorem e58 : c58 = .region 18 r58 false := by kernel_rfl
theorem e59 : c59 = .ret := by kernel_rfl
theorem e60 : c60 = .skip := by kernel_rfl
theorem e61 : c61 = .seq c62 c99 := by kernel_rfl
theorem e62 : c62 = .seq c63 c64 := by kernel_rfl
noncomputable def r63 : Array Oper := match c63 with | .region _ x _ => x | _ => #[]
theorem e63 : c63 = .region 19 r63 false := by kernel_rfl
theorem e64 : c64 = .block 2 c65 := by kernel_rfl
theorem e65 : c65 = .loop c66 := by kernel_rfl
theorem e66 : c66 = .seq c67 c72 := by kernel_rfl
theorem e67 : c67 = .seq c68 c69 := by kernel_rfl
noncomputable def r68 : Array Oper := match c68 with | .region _ x _ => x | _ => #[]
theorem e68 : c68 = .region 20 r68 false := by kernel_rfl
theorem e69 : c69 = .cond (.tmp 87) c70 c71 := by kernel_rfl
theorem e70 : c70 = .skip := by kernel_rfl
theorem e71 : c71 = .exit 2 := by kernel_rfl
theorem e72 : c72 = .seq c73 c98 := by kernel_rfl
theorem e73 : c73 = .block 3 c74 := by kernel_rfl
theorem e74 : c74 = .seq c75 c76 := by kernel_rfl
noncomputable def r75 : Array Oper := match c75 with | .region _ x _ => x | _ => #[]
theorem e75 : c75 = .region 22 r75 false := by kernel_rfl
theorem e76 : c76 = .seq c77 c91 := by kernel_rfl
theorem e77 : c77 = .seq c78 c79 := by kernel_rfl
noncomputable def r78 : Array Oper := match c78 with | .region _ x _ => x | _ => #[]
theorem e78 : c78 = .region 23 r78 false := by kernel_rfl
theorem e79 : c79 = .block 4 c80 := by kernel_rfl
theorem e80 : c80 = .loop c81 := by kernel_rfl
theorem e81 : c81 = .seq c82 c87 := by kernel_rfl
theorem e82 : c82 = .seq c83 c84 := by kernel_rfl
noncomputable def r83 : Array Oper := match c83 with | .region _ x _ => x | _ => #[]
theorem e83 : c83 = .region 24 r83 false := by kernel_rfl
theorem e84 : c84 = .cond (.tmp 96) c85 c86 := by kernel_rfl
theorem e85 : c85 = .skip := by kernel_rfl
theorem e86 : c86 = .exit 4 := by kernel_rfl
theorem e87 : c87 = .seq c88 c90 := by kernel_rfl
theorem e88 : c88 = .block 5 c89 := by kernel_rfl
noncomputable def r89 : Array Oper := match c89 with | .region _ x _ => x | _ => #[]
theorem e89 : c89 = .region 26 r89 true := by kernel_rfl
noncomputable def r90 : Array Oper := match c90 with | .region _ x _ => x | _ => #[]
theorem e90 : c90 = .region 25 r90 false := by kernel_rfl
theorem e91 : c91 = .seq c92 c93 := by kernel_rfl
noncomputable def r92 : Array Oper := match c92 with | .region _ x _ => x | _ => #[]
theorem e92 : c92 = .region 27 r92 true := by kernel_rfl
theorem e93 : c93 = .cond (.tmp 126) c94 c97 := by kernel_rfl
theorem e94 : c94 = .seq c95 c96 := by kernel_rfl
noncomputable def r95 : Array Oper := match c95 with | .region _ x _ => x | _ => #[]
theorem e95 : c95 = .region 28 r95 false := by kernel_rfl
theorem e96 : c96 = .ret := by kernel_rfl
theorem e97 : c97 = .skip := by kernel_rfl
noncomputable def r98 : Array Oper := match c98 with | .region _ x _ => x | _ => #[]
theorem e98 : c98 = .region 21 r98 false := by kernel_rfl
theorem e99 : c99 = .seq c100 c101 := by kernel_rfl
noncomputable def r100 : Array Oper := match c100 with | .region _ x _ => x | _ => #[]
theorem e100 : c100 = .region 29 r100 false := by kernel_rfl
theorem e101 : c101 = .ret := by kernel_rfl
theorem body : Try.f3.body = some c0 := by kernel_rfl
section
variable {base : Nat} {W0 : World} {β0 : Bt}
def L5 (D : Dp) (H : Hd) (k : Nat) (rec0 : Sl → Sl → Int → HS → Option ((Bool) × HS)) : Nat → Sl → Sl → Int → Bool → Int → HS → Option ((Bool) × HS)
  | 0, _, _, _, _, _, _ => none
  | n + 1, y0, y6, y13, y14, y15, S =>
    (Option.bind (HS.idx S y0 y13 1) fun p29 =>
    (Option.bind (HS.ldSl S p29) fun p30 =>
    (if y15 < (Sl.len p30 : Int) then
    (if y14 = true then
    (L5 D H k rec0 n) y0 y6 y13 true (w64 (y15 + 1)) S else
    (Option.bind (HS.idx S y0 (w64 (y13 + 1)) 1) fun p33 =>
    (Option.bind (HS.ldSl S p33) fun p34 =>
    (Option.bind (HS.idx S y0 y13 1) fun p35 =>
    (Option.bind (HS.ldSl S p35) fun p36 =>
    (Option.bind (HS.idx S p36 y15 1) fun p37 =>
    (Option.bind (HS.ldI S .i64 p37) fun p38 =>
    (Option.bind (rollcallref10_Has.f k p34 p38 S) fun p39 =>
    (L5 D H k rec0 n) y0 y6 y13 p39.1 (w64 (y15 + 1)) p39.2)))))))) else
    (Option.bind (HS.idx S y6 y13 1) fun p40 =>
    (Option.bind (HS.ldP S p40) fun p41 =>
    (Option.bind (HS.idx S y6 (w64 (y13 + 1)) 1) fun p42 =>
    (Option.bind (HS.ldP S p42) fun p43 =>
    (Option.bind (set_Meet_int.f D H k p41 p43 S) fun p44 =>
    (if (!(p44.1 == y14)) = true then
    some (false, p44.2) else
    rec0 y0 y6 (w64 (y13 + 1)) p44.2)))))))))
theorem L5_snd {D : Dp} {H : Hd} {k : Nat} {rec0 : Sl → Sl → Int → HS → Option ((Bool) × HS)} (hD : DSound Try.prog base W0 D) (hH : HSound Try.prog base W0 β0 H) (hrec0 : ∀ ⦃y0 : Sl⦄ ⦃y6 : Sl⦄ ⦃y13 : Int⦄ ⦃S : HS⦄ ⦃p : (Bool) × HS⦄ ⦃g1 g2 g3 g4 g5 g7 g8 g9 g10 g11 g12 g14 g15 g16 g17 g18 g19 g20 g21 g22 g23 g24 g25 g26 g27 g28 g29 g30 g31 g32 g33 g34 g35 g36 g37 g38 g39 g40 g41 g42 g43 g44 g45 g46 g47 g48 g49 g50 g51 g52 g53 g54 g55 g56 g57 g58 g59 g60 g61 g62 g63 g64 g65 g66 g67 g68 g69 g70 g71 g72 g73 g74 g75 g76 g77 g78 g79 g80 g81 g82 g83 g84 g85 g86 g87 g88 g89 g90 g91 g92 g93 g94 g95 g96 g97 g98 g99 g100 g101 g102 g103 g104 g105 g106 g107 g108 g109 g110 g111 g112 g113 g114 g115 g116 g117 g118 g119 g120 g121 g122 g123 g124 g125 g126 : HV⦄, rec0 y0 y6 y13 S = some p → HRun Try.prog base W0 β0 3 none [.inLoop c66, .inBlock 2, .code c99] ⟨[(Sl.hv y0), g1, g2, g3, g4, g5, (Sl.hv y6), g7, g8, g9, g10, g11, g12, (.int .i64 y13), g14, g15, g16, g17, g18, g19, g20, g21, g22, g23, g24, g25, g26, g27, g28, g29, g30, g31, g32, g33, g34, g35, g36, g37, g38, g39, g40, g41, g42, g43, g44, g45, g46, g47, g48, g49, g50, g51, g52, g53, g54, g55, g56, g57, g58, g59, g60, g61, g62, g63, g64, g65, g66, g67, g68, g69, g70, g71, g72, g73, g74, g75, g76, g77, g78, g79, g80, g81, g82, g83, g84, g85, g86, g87, g88, g89, g90, g91, g92, g93, g94, g95, g96, g97, g98, g99, g100, g101, g102, g103, g104, g105, g106, g107, g108, g109, g110, g111, g112, g113, g114, g115, g116, g117, g118, g119, g120, g121, g122, g123, g124, g125, g126], []⟩ S (fun v S1 => v = (.bool p.1) ∧ S1 = p.2)) : ∀ {n : Nat} ⦃y0 : Sl⦄ ⦃y6 : Sl⦄ ⦃y13 : Int⦄ ⦃y14 : Bool⦄ ⦃y15 : Int⦄ ⦃S : HS⦄ ⦃p : (Bool) × HS⦄ ⦃g1 g2 g3 g4 g5 g7 g8 g9 g10 g11 g12 g16 g17 g18 g19 g20 g21 g22 g23 g24 g25 g26 g27 g28 g29 g30 g31 g32 g33 g34 g35 g36 g37 g38 g39 g40 g41 g42 g43 g44 g45 g46 g47 g48 g49 g50 g51 g52 g53 g54 g55 g56 g57 g58 g59 g60 g61 g62 g63 g64 g65 g66 g67 g68 g69 g70 g71 g72 g73 g74 g75 g76 g77 g78 g79 g80 g81 g82 g83 g84 g85 g86 g87 g88 g89 g90 g91 g92 g93 g94 g95 g96 g97 g98 g99 g100 g101 g102 g103 g104 g105 g106 g107 g108 g109 g110 g111 g112 g113 g114 g115 g116 g117 g118 g119 g120 g121 g122 g123 g124 g125 g126 : HV⦄, L5 D H k rec0 n y0 y6 y13 y14 y15 S = some p → HRun Try.prog base W0 β0 3 none [.inLoop c81, .inBlock 4, .code c91, .inBlock 3, .code c98, .inLoop c66, .inBlock 2, .code c99] ⟨[(Sl.hv y0), g1, g2, g3, g4, g5, (Sl.hv y6), g7, g8, g9, g10, g11, g12, (.int .i64 y13), (.bool y14), (.int .i64 y15), g16, g17, g18, g19, g20, g21, g22, g23, g24, g25, g26, g27, g28, g29, g30, g31, g32, g33, g34, g35, g36, g37, g38, g39, g40, g41, g42, g43, g44, g45, g46, g47, g48, g49, g50, g51, g52, g53, g54, g55, g56, g57, g58, g59, g60, g61, g62, g63, g64, g65, g66, g67, g68, g69, g70, g71, g72, g73, g74, g75, g76, g77, g78, g79, g80, g81, g82, g83, g84, g85, g86, g87, g88, g89, g90, g91, g92, g93, g94, g95, g96, g97, g98, g99, g100, g101, g102, g103, g104, g105, g106, g107, g108, g109, g110, g111, g112, g113, g114, g115, g116, g117, g118, g119, g120, g121, g122, g123, g124, g125, g126], []⟩ S (fun v S1 => v = (.bool p.1) ∧ S1 = p.2) := by
  intro n
  induction n with
  | zero => intro _ _ _ _ _ _ _ _ _ _ _ _ _ _ _ _ _ _ _ _ _ _ _ _ _ _ _ _ _ _ _ _ _ _ _ _ _ _ _ _ _ _ _ _ _ _ _ _ _ _ _ _ _ _ _ _ _ _ _ _ _ _ _ _ _ _ _ _ _ _ _ _ _ _ _ _ _ _ _ _ _ _ _ _ _ _ _ _ _ _ _ _ _ _ _ _ _ _ _ _ _ _ _ _ _ _ _ _ _ _ _ _ _ _ _ _ _ _ _ _ _ _ _ _ _ _ _ _ _ h; cases h
  | succ n ih =>
    intro y0 y6 y13 y14 y15 S p g1 g2 g3 g4 g5 g7 g8 g9 g10 g11 g12 g16 g17 g18 g19 g20 g21 g22 g23 g24 g25 g26 g27 g28 g29 g30 g31 g32 g33 g34 g35 g36 g37 g38 g39 g40 g41 g42 g43 g44 g45 g46 g47 g48 g49 g50 g51 g52 g53 g54 g55 g56 g57 g58 g59 g60 g61 g62 g63 g64 g65 g66 g67 g68 g69 g70 g71 g72 g73 g74 g75 g76 g77 g78 g79 g80 g81 g82 g83 g84 g85 g86 g87 g88 g89 g90 g91 g92 g93 g94 g95 g96 g97 g98 g99 g100 g101 g102 g103 g104 g105 g106 g107 g108 g109 g110 g111 g112 g113 g114 g115 g116 g117 g118 g119 g120 g121 g122 g123 g124 g125 g126 h
    simp only [L5] at h
    refine hr_inLoop ?_
    refine q_seq e81 ?_
    refine q_seq e82 ?_
    refine q_region e83 rfl ?_
    refine q_op (dst := some 90) rfl (fun _ ho => ok_move ho (.tmp rfl)) ?_
    refine q_op (dst := some 91) rfl (fun _ ho => ok_move ho (.tmp rfl)) ?_
    refine q_op (dst := some 92) rfl (fun _ ho => ok_move ho (.tmp rfl)) ?_
    obtain ⟨p29, hp29, h⟩ := bindo h
    refine q_op (dst := some 93) rfl (fun _ ho => ok_indexAddr (s := y0) ho tu22 sz24 (.tmp rfl) (.tmp rfl) hp29) ?_
    try dsimp only [HAct.put, List.set_cons_zero, List.set_cons_succ]
    obtain ⟨p30, hp30, h⟩ := bindo h
    refine q_op (dst := some 94) rfl (fun _ ho => ok_load_s ho sc24 (.tmp rfl) rfl (ldSl_out hp30)) ?_
    refine q_op (dst := some 95) rfl (fun _ ho => ok_len_sl (q := Sl.a p30) (n := Sl.len p30) (z := Sl.cap p30) ho rfl tu24 (.tmp rfl)) ?_
    refine q_op (dst := some 96) rfl (fun _ ho => ok_ibin ho (.tmp rfl) (.tmp rfl) rfl) ?_
    refine hr_region_end ?_
    try dsimp only [HAct.put, List.set_cons_zero, List.set_cons_succ]
    rcases ifc h with ⟨hc31, h⟩ | ⟨hc31, h⟩
    · refine q_cond_t e84 (.tmp rfl) (decide_eq_true hc31) ?_
      refine q_skipc e85 ?_
      refine q_seq e87 ?_
      refine q_block e88 ?_
      refine x_start (cls := [0, 0, 0, 0, 0, 1, 1, 0, 0, 1, 1, 0, 1, 1, 2, 0, 0]) (rk := [0, 1, 2, 3, 4, 5, 6, 7, 8, 9, 10, 11, 12, 13, 14, 15, 16]) e89 (by kernel_rfl) ?_
      refine x_go (f_op (dst := some 99) (ts := [14]) rfl (by intro _ _ h; cases h) (by kernel_rfl) (fun _ _ ho => ok_move ho (.tmp rfl))) rfl ?_
      refine x_go (f_op (dst := some 100) (ts := [99]) rfl (by intro _ _ h; cases h) (by kernel_rfl) (fun _ _ ho => ok_move ho (.tmp rfl))) rfl ?_
      rcases ifc h with ⟨hc32, h⟩ | ⟨hc32, h⟩
      · refine x_go (f_skip (dst := some 101) (t := 100) (ts := [0, 100]) rfl (by kernel_rfl) rfl rfl hc32) rfl ?_
        refine x_go (f_skip (dst := some 102) (t := 100) (ts := [13, 100]) rfl (by kernel_rfl) rfl rfl hc32) rfl ?_
        try dsimp only [HAct.put, List.set_cons_zero, List.set_cons_succ]
        refine x_go (f_skip (dst := some 103) (t := 100) (ts := [102, 100]) rfl (by kernel_rfl) rfl rfl hc32) rfl ?_
        refine x_go (r_skip (dst := some 104) (t := 100) (ts := [101, 103, 100]) rfl (by kernel_rfl) rfl rfl hc32) rfl ?_
        refine x_go (r_skip (dst := some 105) (t := 100) (ts := [104, 100]) rfl (by kernel_rfl) rfl rfl hc32) rfl ?_
        refine x_go (f_skip (dst := some 106) (t := 100) (ts := [0, 100]) rfl (by kernel_rfl) rfl rfl hc32) rfl ?_
        try dsimp only [HAct.put, List.set_cons_zero, List.set_cons_succ]
        refine x_go (f_skip (dst := some 107) (t := 100) (ts := [13, 100]) rfl (by kernel_rfl) rfl rfl hc32) rfl ?_
        refine x_go (r_skip (dst := some 108) (t := 100) (ts := [106, 107, 100]) rfl (by kernel_rfl) rfl rfl hc32) rfl ?_
        refine x_go (r_skip (dst := some 109) (t := 100) (ts := [108, 100]) rfl (by kernel_rfl) rfl rfl hc32) rfl ?_
        refine x_go (f_skip (dst := some 110) (t := 100) (ts := [15, 100]) rfl (by kernel_rfl) rfl rfl hc32) rfl ?_
        try dsimp only [HAct.put, List.set_cons_zero, List.set_cons_succ]
        refine x_go (r_skip (dst := some 111) (t := 100) (ts := [109, 110, 100]) rfl (by kernel_rfl) rfl rfl hc32) rfl ?_
        refine x_go (r_skip (dst := some 112) (t := 100) (ts := [111, 100]) rfl (by kernel_rfl) rfl rfl hc32) rfl ?_
        refine x_go (e_skip (dst := some 113) (t := 100) (ts := [105, 112, 100]) rfl (by kernel_rfl) rfl rfl hc32) rfl ?_
        refine x_go (f_op (dst := some 114) (ts := [100, 113]) rfl (by intro _ _ h; cases h) (by kernel_rfl) (fun _ _ ho => ok_pick_tt ho (.tmp rfl) hc32 (.bool _))) rfl ?_
        try dsimp only [HAct.put, List.set_cons_zero, List.set_cons_succ]
        refine x_go (f_op (dst := some 14) (ts := [114]) rfl (by intro _ _ h; cases h) (by kernel_rfl) (fun _ _ ho => ok_assign ho (.tmp rfl))) rfl ?_
        refine x_rest rfl ?_
        refine hr_region_end ?_
        try dsimp only [HAct.put, List.set_cons_zero, List.set_cons_succ]
        refine hr_inBlock ?_
        refine q_region e90 rfl ?_
        refine q_op (dst := some 97) rfl (fun _ ho => ok_move ho (.tmp rfl)) ?_
        refine q_op (dst := some 98) rfl (fun _ ho => ok_ibin ho (.tmp rfl) (.int _ _) rfl) ?_
        refine q_op (dst := some 15) rfl (fun _ ho => ok_assign ho (.tmp rfl)) ?_
        refine hr_region_end ?_
        try dsimp only [HAct.put, List.set_cons_zero, List.set_cons_succ]
        try dsimp only [HAct.put, List.set_cons_zero, List.set_cons_succ]
        exact ih h
      · refine x_go (f_op_g (dst := some 101) (t := 100) (ts := [0, 100]) rfl (by intro _ _ h; cases h) (by kernel_rfl) rfl rfl (bfalse hc32) (fun _ _ ho => ok_move ho (.tmp rfl))) rfl ?_
        refine x_go (f_op_g (dst := some 102) (t := 100) (ts := [13, 100]) rfl (by intro _ _ h; cases h) (by kernel_rfl) rfl rfl (bfalse hc32) (fun _ _ ho => ok_move ho (.tmp rfl))) rfl ?_
        try dsimp only [HAct.put, List.set_cons_zero, List.set_cons_succ]
        refine x_go (f_op_g (dst := some 103) (t := 100) (ts := [102, 100]) rfl (by intro _ _ h; cases h) (by kernel_rfl) rfl rfl (bfalse hc32) (fun _ _ ho => ok_ibin ho (.tmp rfl) (.int _ _) rfl)) rfl ?_
        obtain ⟨p33, hp33, h⟩ := bindo h
        refine x_go (r_op_g (dst := some 104) (t := 100) (ts := [101, 103, 100]) rfl (by intro _ _ h; cases h) (by kernel_rfl) rfl rfl (bfalse hc32) (fun _ ho => ok_indexAddr (s := y0) ho tu22 sz24 (.tmp rfl) (.tmp rfl) hp33)) rfl ?_
        obtain ⟨p34, hp34, h⟩ := bindo h
        refine x_go (r_op_g (dst := some 105) (t := 100) (ts := [104, 100]) rfl (by intro _ _ h; cases h) (by kernel_rfl) rfl rfl (bfalse hc32) (fun _ ho => ok_load_s ho sc24 (.tmp rfl) rfl (ldSl_out hp34))) rfl ?_
        refine x_go (f_op_g (dst := some 106) (t := 100) (ts := [0, 100]) rfl (by intro _ _ h; cases h) (by kernel_rfl) rfl rfl (bfalse hc32) (fun _ _ ho => ok_move ho (.tmp rfl))) rfl ?_
        try dsimp only [HAct.put, List.set_cons_zero, List.set_cons_succ]
        refine x_go (f_op_g (dst := some 107) (t := 100) (ts := [13, 100]) rfl (by intro _ _ h; cases h) (by kernel_rfl) rfl rfl (bfalse hc32) (fun _ _ ho => ok_move ho (.tmp rfl))) rfl ?_
        obtain ⟨p35, hp35, h⟩ := bindo h
        refine x_go (r_op_g (dst := some 108) (t := 100) (ts := [106, 107, 100]) rfl (by intro _ _ h; cases h) (by kernel_rfl) rfl rfl (bfalse hc32) (fun _ ho => ok_indexAddr (s := y0) ho tu22 sz24 (.tmp rfl) (.tmp rfl) hp35)) rfl ?_
        obtain ⟨p36, hp36, h⟩ := bindo h
        refine x_go (r_op_g (dst := some 109) (t := 100) (ts := [108, 100]) rfl (by intro _ _ h; cases h) (by kernel_rfl) rfl rfl (bfalse hc32) (fun _ ho => ok_load_s ho sc24 (.tmp rfl) rfl (ldSl_out hp36))) rfl ?_
        refine x_go (f_op_g (dst := some 110) (t := 100) (ts := [15, 100]) rfl (by intro _ _ h; cases h) (by kernel_rfl) rfl rfl (bfalse hc32) (fun _ _ ho => ok_move ho (.tmp rfl))) rfl ?_
        try dsimp only [HAct.put, List.set_cons_zero, List.set_cons_succ]
        obtain ⟨p37, hp37, h⟩ := bindo h
        refine x_go (r_op_g (dst := some 111) (t := 100) (ts := [109, 110, 100]) rfl (by intro _ _ h; cases h) (by kernel_rfl) rfl rfl (bfalse hc32) (fun _ ho => ok_indexAddr (s := p36) ho tu24 sz3 (.tmp rfl) (.tmp rfl) hp37)) rfl ?_
        obtain ⟨p38, hp38, h⟩ := bindo h
        refine x_go (r_op_g (dst := some 112) (t := 100) (ts := [111, 100]) rfl (by intro _ _ h; cases h) (by kernel_rfl) rfl rfl (bfalse hc32) (fun _ ho => ok_load_s ho sc3 (.tmp rfl) rfl (ldI_out hp38))) rfl ?_
        obtain ⟨p39, hp39, h⟩ := bindo h
        refine x_go (e_call_g (dst := some 113) (t := 100) (ts := [105, 112, 100]) rfl (by kernel_rfl) rfl rfl (bfalse hc32) (.func _) (.cons (.tmp rfl) (.cons (.tmp rfl) Evs.nil)) (HInv.static rollcallref10_Has.at_ rollcallref10_Has.body (rollcallref10_Has.snd  hp39))) rfl ?_
        refine x_go (f_op (dst := some 114) (ts := [100, 113]) rfl (by intro _ _ h; cases h) (by kernel_rfl) (fun _ _ ho => ok_pick_ff ho (.tmp rfl) (bfalse hc32) (.tmp rfl))) rfl ?_
        try dsimp only [HAct.put, List.set_cons_zero, List.set_cons_succ]
        refine x_go (f_op (dst := some 14) (ts := [114]) rfl (by intro _ _ h; cases h) (by kernel_rfl) (fun _ _ ho => ok_assign ho (.tmp rfl))) rfl ?_
        refine x_rest rfl ?_
        refine hr_region_end ?_
        try dsimp only [HAct.put, List.set_cons_zero, List.set_cons_succ]
        refine hr_inBlock ?_
        refine q_region e90 rfl ?_
        refine q_op (dst := some 97) rfl (fun _ ho => ok_move ho (.tmp rfl)) ?_
        refine q_op (dst := some 98) rfl (fun _ ho => ok_ibin ho (.tmp rfl) (.int _ _) rfl) ?_
        refine q_op (dst := some 15) rfl (fun _ ho => ok_assign ho (.tmp rfl)) ?_
        refine hr_region_end ?_
        try dsimp only [HAct.put, List.set_cons_zero, List.set_cons_succ]
        try dsimp only [HAct.put, List.set_cons_zero, List.set_cons_succ]
        exact ih h
    · refine q_cond_f e84 (.tmp rfl) (decide_eq_false hc31) ?_
      refine q_exit e86 rfl ?_
      refine q_seq e91 ?_
      refine x_start (cls := [0, 0, 1, 1, 0, 0, 0, 1, 1, 2, 0, 0]) (rk := [0, 1, 2, 3, 4, 5, 6, 7, 8, 9, 10, 11]) e92 (by kernel_rfl) ?_
      refine x_go (f_op (dst := some 115) (ts := [6]) rfl (by intro _ _ h; cases h) (by kernel_rfl) (fun _ _ ho => ok_move ho (.tmp rfl))) rfl ?_
      refine x_go (f_op (dst := some 116) (ts := [13]) rfl (by intro _ _ h; cases h) (by kernel_rfl) (fun _ _ ho => ok_move ho (.tmp rfl))) rfl ?_
      obtain ⟨p40, hp40, h⟩ := bindo h
      refine x_go (r_op (dst := some 117) (ts := [115, 116]) rfl (by intro _ _ h; cases h) (by kernel_rfl) (fun _ ho => ok_indexAddr (s := y6) ho tu25 sz26 (.tmp rfl) (.tmp rfl) hp40)) rfl ?_
      obtain ⟨p41, hp41, h⟩ := bindo h
      refine x_go (r_op (dst := some 118) (ts := [117]) rfl (by intro _ _ h; cases h) (by kernel_rfl) (fun _ ho => ok_load_s ho sc26 (.tmp rfl) rfl (ldP_out hp41))) rfl ?_
      try dsimp only [HAct.put, List.set_cons_zero, List.set_cons_succ]
      refine x_go (f_op (dst := some 119) (ts := [6]) rfl (by intro _ _ h; cases h) (by kernel_rfl) (fun _ _ ho => ok_move ho (.tmp rfl))) rfl ?_
      refine x_go (f_op (dst := some 120) (ts := [13]) rfl (by intro _ _ h; cases h) (by kernel_rfl) (fun _ _ ho => ok_move ho (.tmp rfl))) rfl ?_
      refine x_go (f_op (dst := some 121) (ts := [120]) rfl (by intro _ _ h; cases h) (by kernel_rfl) (fun _ _ ho => ok_ibin ho (.tmp rfl) (.int _ _) rfl)) rfl ?_
      obtain ⟨p42, hp42, h⟩ := bindo h
      refine x_go (r_op (dst := some 122) (ts := [119, 121]) rfl (by intro _ _ h; cases h) (by kernel_rfl) (fun _ ho => ok_indexAddr (s := y6) ho tu25 sz26 (.tmp rfl) (.tmp rfl) hp42)) rfl ?_
      try dsimp only [HAct.put, List.set_cons_zero, List.set_cons_succ]
      obtain ⟨p43, hp43, h⟩ := bindo h
      refine x_go (r_op (dst := some 123) (ts := [122]) rfl (by intro _ _ h; cases h) (by kernel_rfl) (fun _ ho => ok_load_s ho sc26 (.tmp rfl) rfl (ldP_out hp43))) rfl ?_
      obtain ⟨p44, hp44, h⟩ := bindo h
      refine x_go (e_call (dst := some 124) (ts := [118, 123]) rfl (by kernel_rfl) (.func _) (.cons (.tmp rfl) (.cons (.tmp rfl) Evs.nil)) (HInv.static set_Meet_int.at_ set_Meet_int.body (set_Meet_int.snd hD hH hp44))) rfl ?_
      refine x_go (f_op (dst := some 125) (ts := [14]) rfl (by intro _ _ h; cases h) (by kernel_rfl) (fun _ _ ho => ok_move ho (.tmp rfl))) rfl ?_
      refine x_go (f_op (dst := some 126) (ts := [124, 125]) rfl (by intro _ _ h; cases h) (by kernel_rfl) (fun _ _ ho => ok_beq ho tu4 (.inr ⟨rfl, rfl⟩) (.tmp rfl) (.tmp rfl))) rfl ?_
      refine x_rest rfl ?_
      refine hr_region_end ?_
      try dsimp only [HAct.put, List.set_cons_zero, List.set_cons_succ]
      rcases ifc h with ⟨hc45, h⟩ | ⟨hc45, h⟩
      · refine q_cond_t e93 (.tmp rfl) hc45 ?_
        refine q_seq e94 ?_
        refine q_region e95 rfl ?_
        refine q_op (dst := some 4) rfl (fun _ ho => ok_assign ho (.bool _)) ?_
        refine hr_region_end ?_
        try dsimp only [HAct.put, List.set_cons_zero, List.set_cons_succ]
        cases h
        exact q_ret e96 at_.at_ rfl (res1 rfl rfl) ⟨rfl, rfl⟩
      · refine q_cond_f e93 (.tmp rfl) (bfalse hc45) ?_
        refine q_skipc e97 ?_
        refine hr_inBlock ?_
        refine q_region e98 rfl ?_
        refine q_op (dst := some 88) rfl (fun _ ho => ok_move ho (.tmp rfl)) ?_
        refine q_op (dst := some 89) rfl (fun _ ho => ok_ibin ho (.tmp rfl) (.int _ _) rfl) ?_
        refine q_op (dst := some 13) rfl (fun _ ho => ok_assign ho (.tmp rfl)) ?_
        refine hr_region_end ?_
        try dsimp only [HAct.put, List.set_cons_zero, List.set_cons_succ]
        try dsimp only [HAct.put, List.set_cons_zero, List.set_cons_succ]
        exact hrec0 h
def L4 (D : Dp) (H : Hd) (k : Nat) : Nat → Sl → Sl → Int → HS → Option ((Bool) × HS)
  | 0, _, _, _, _ => none
  | n + 1, y0, y6, y13, S =>
    (if (w64 (y13 + 1)) < (Sl.len y0 : Int) then
    L5 D H k (L4 D H k n) k y0 y6 y13 false 0 S else
    some (true, S))
theorem L4_snd {D : Dp} {H : Hd} {k : Nat} (hD : DSound Try.prog base W0 D) (hH : HSound Try.prog base W0 β0 H)  : ∀ {n : Nat} ⦃y0 : Sl⦄ ⦃y6 : Sl⦄ ⦃y13 : Int⦄ ⦃S : HS⦄ ⦃p : (Bool) × HS⦄ ⦃g1 g2 g3 g4 g5 g7 g8 g9 g10 g11 g12 g14 g15 g16 g17 g18 g19 g20 g21 g22 g23 g24 g25 g26 g27 g28 g29 g30 g31 g32 g33 g34 g35 g36 g37 g38 g39 g40 g41 g42 g43 g44 g45 g46 g47 g48 g49 g50 g51 g52 g53 g54 g55 g56 g57 g58 g59 g60 g61 g62 g63 g64 g65 g66 g67 g68 g69 g70 g71 g72 g73 g74 g75 g76 g77 g78 g79 g80 g81 g82 g83 g84 g85 g86 g87 g88 g89 g90 g91 g92 g93 g94 g95 g96 g97 g98 g99 g100 g101 g102 g103 g104 g105 g106 g107 g108 g109 g110 g111 g112 g113 g114 g115 g116 g117 g118 g119 g120 g121 g122 g123 g124 g125 g126 : HV⦄, L4 D H k n y0 y6 y13 S = some p → HRun Try.prog base W0 β0 3 none [.inLoop c66, .inBlock 2, .code c99] ⟨[(Sl.hv y0), g1, g2, g3, g4, g5, (Sl.hv y6), g7, g8, g9, g10, g11, g12, (.int .i64 y13), g14, g15, g16, g17, g18, g19, g20, g21, g22, g23, g24, g25, g26, g27, g28, g29, g30, g31, g32, g33, g34, g35, g36, g37, g38, g39, g40, g41, g42, g43, g44, g45, g46, g47, g48, g49, g50, g51, g52, g53, g54, g55, g56, g57, g58, g59, g60, g61, g62, g63, g64, g65, g66, g67, g68, g69, g70, g71, g72, g73, g74, g75, g76, g77, g78, g79, g80, g81, g82, g83, g84, g85, g86, g87, g88, g89, g90, g91, g92, g93, g94, g95, g96, g97, g98, g99, g100, g101, g102, g103, g104, g105, g106, g107, g108, g109, g110, g111, g112, g113, g114, g115, g116, g117, g118, g119, g120, g121, g122, g123, g124, g125, g126], []⟩ S (fun v S1 => v = (.bool p.1) ∧ S1 = p.2) := by
  intro n
  induction n with
  | zero => intro _ _ _ _ _ _ _ _ _ _ _ _ _ _ _ _ _ _ _ _ _ _ _ _ _ _ _ _ _ _ _ _ _ _ _ _ _ _ _ _ _ _ _ _ _ _ _ _ _ _ _ _ _ _ _ _ _ _ _ _ _ _ _ _ _ _ _ _ _ _ _ _ _ _ _ _ _ _ _ _ _ _ _ _ _ _ _ _ _ _ _ _ _ _ _ _ _ _ _ _ _ _ _ _ _ _ _ _ _ _ _ _ _ _ _ _ _ _ _ _ _ _ _ _ _ _ _ _ _ h; cases h
  | succ n ih =>
    intro y0 y6 y13 S p g1 g2 g3 g4 g5 g7 g8 g9 g10 g11 g12 g14 g15 g16 g17 g18 g19 g20 g21 g22 g23 g24 g25 g26 g27 g28 g29 g30 g31 g32 g33 g34 g35 g36 g37 g38 g39 g40 g41 g42 g43 g44 g45 g46 g47 g48 g49 g50 g51 g52 g53 g54 g55 g56 g57 g58 g59 g60 g61 g62 g63 g64 g65 g66 g67 g68 g69 g70 g71 g72 g73 g74 g75 g76 g77 g78 g79 g80 g81 g82 g83 g84 g85 g86 g87 g88 g89 g90 g91 g92 g93 g94 g95 g96 g97 g98 g99 g100 g101 g102 g103 g104 g105 g106 g107 g108 g109 g110 g111 g112 g113 g114 g115 g116 g117 g118 g119 g120 g121 g122 g123 g124 g125 g126 h
    simp only [L4] at h
    refine hr_inLoop ?_
    refine q_seq e66 ?_
    refine q_seq e67 ?_
    refine q_region e68 rfl ?_
    refine q_op (dst := some 83) rfl (fun _ ho => ok_move ho (.tmp rfl)) ?_
    refine q_op (dst := some 84) rfl (fun _ ho => ok_ibin ho (.tmp rfl) (.int _ _) rfl) ?_
    refine q_op (dst := some 85) rfl (fun _ ho => ok_move ho (.tmp rfl)) ?_
    refine q_op (dst := some 86) rfl (fun _ ho => ok_len_sl (q := Sl.a y0) (n := Sl.len y0) (z := Sl.cap y0) ho rfl tu22 (.tmp rfl)) ?_
    try dsimp only [HAct.put, List.set_cons_zero, List.set_cons_succ]
    refine q_op (dst := some 87) rfl (fun _ ho => ok_ibin ho (.tmp rfl) (.tmp rfl) rfl) ?_
    refine hr_region_end ?_
    try dsimp only [HAct.put, List.set_cons_zero, List.set_cons_succ]
    rcases ifc h with ⟨hc28, h⟩ | ⟨hc28, h⟩
    · refine q_cond_t e69 (.tmp rfl) (decide_eq_true hc28) ?_
      refine q_skipc e70 ?_
      refine q_seq e72 ?_
      refine q_block e73 ?_
      refine q_seq e74 ?_
      refine q_region e75 rfl ?_
      refine q_op (dst := some 14) rfl (fun _ ho => ok_assign ho (.bool _)) ?_
      refine hr_region_end ?_
      try dsimp only [HAct.put, List.set_cons_zero, List.set_cons_succ]
      refine q_seq e76 ?_
      refine q_seq e77 ?_
      refine q_region e78 rfl ?_
      refine q_op (dst := some 15) rfl (fun _ ho => ok_assign ho (.int _ _)) ?_
      refine hr_region_end ?_
      try dsimp only [HAct.put, List.set_cons_zero, List.set_cons_succ]
      refine q_block e79 ?_
      refine q_loop e80 ?_
      try dsimp only [HAct.put, List.set_cons_zero, List.set_cons_succ]
      exact L5_snd hD hH ih h
    · refine q_cond_f e69 (.tmp rfl) (decide_eq_false hc28) ?_
      refine q_exit e71 rfl ?_
      refine q_seq e99 ?_
      refine q_region e100 rfl ?_
      refine q_op (dst := some 4) rfl (fun _ ho => ok_assign ho (.bool _)) ?_
      refine hr_region_end ?_
      try dsimp only [HAct.put, List.set_cons_zero, List.set_cons_succ]
      cases h
      exact q_ret e101 at_.at_ rfl (res1 rfl rfl) ⟨rfl, rfl⟩
def J3 (D : Dp) (H : Hd) (k : Nat) (y0 : Sl) (y6 : Sl) (y82 : Bool) (S : HS) : Option ((Bool) × HS) :=
  (if y82 = true then
  some (false, S) else
  L4 D H k k y0 y6 0 S)
theorem J3_snd {D : Dp} {H : Hd} {k : Nat} (hD : DSound Try.prog base W0 D) (hH : HSound Try.prog base W0 β0 H)  {y0 : Sl} {y6 : Sl} {y82 : Bool} {S : HS} {p : (Bool) × HS} {g1 g2 g3 g4 g5 g7 g8 g9 g10 g11 g12 g13 g14 g15 g16 g17 g18 g19 g20 g21 g22 g23 g24 g25 g26 g27 g28 g29 g30 g31 g32 g33 g34 g35 g36 g37 g38 g39 g40 g41 g42 g43 g44 g45 g46 g47 g48 g49 g50 g51 g52 g53 g54 g55 g56 g57 g58 g59 g60 g61 g62 g63 g64 g65 g66 g67 g68 g69 g70 g71 g72 g73 g74 g75 g76 g77 g78 g79 g80 g81 g83 g84 g85 g86 g87 g88 g89 g90 g91 g92 g93 g94 g95 g96 g97 g98 g99 g100 g101 g102 g103 g104 g105 g106 g107 g108 g109 g110 g111 g112 g113 g114 g115 g116 g117 g118 g119 g120 g121 g122 g123 g124 g125 g126 : HV} (h : J3 D H k y0 y6 y82 S = some p) : HRun Try.prog base W0 β0 3 none [.code c56, .code c61] ⟨[(Sl.hv y0), g1, g2, g3, g4, g5, (Sl.hv y6), g7, g8, g9, g10, g11, g12, g13, g14, g15, g16, g17, g18, g19, g20, g21, g22, g23, g24, g25, g26, g27, g28, g29, g30, g31, g32, g33, g34, g35, g36, g37, g38, g39, g40, g41, g42, g43, g44, g45, g46, g47, g48, g49, g50, g51, g52, g53, g54, g55, g56, g57, g58, g59, g60, g61, g62, g63, g64, g65, g66, g67, g68, g69, g70, g71, g72, g73, g74, g75, g76, g77, g78, g79, g80, g81, (.bool y82), g83, g84, g85, g86, g87, g88, g89, g90, g91, g92, g93, g94, g95, g96, g97, g98, g99, g100, g101, g102, g103, g104, g105, g106, g107, g108, g109, g110, g111, g112, g113, g114, g115, g116, g117, g118, g119, g120, g121, g122, g123, g124, g125, g126], []⟩ S (fun v S1 => v = (.bool p.1) ∧ S1 = p.2) := by
  unfold J3 at h
  rcases ifc h with ⟨hc27, h⟩ | ⟨hc27, h⟩
  · refine q_cond_t e56 (.tmp rfl) hc27 ?_
    refine q_seq e57 ?_
    refine q_region e58 rfl ?_
    refine q_op (dst := some 4) rfl (fun _ ho => ok_assign ho (.bool _)) ?_
    refine hr_region_end ?_
    try dsimp only [HAct.put, List.set_cons_zero, List.set_cons_succ]
    cases h
    exact q_ret e59 at_.at_ rfl (res1 rfl rfl) ⟨rfl, rfl⟩
  · refine q_cond_f e56 (.tmp rfl) (bfalse hc27) ?_
    refine q_skipc e60 ?_
    refine q_seq e61 ?_
    refine q_seq e62 ?_
    refine q_region e63 rfl ?_
    refine q_op (dst := some 13) rfl (fun _ ho => ok_assign ho (.int _ _)) ?_
    refine hr_region_end ?_
    try dsimp only [HAct.put, List.set_cons_zero, List.set_cons_succ]
    refine q_block e64 ?_
    refine q_loop e65 ?_
    try dsimp only [HAct.put, List.set_cons_zero, List.set_cons_succ]
    exact L4_snd hD hH h
def J2 (D : Dp) (H : Hd) (k : Nat) (y0 : Sl) (y1 : Int) (y6 : Sl) (y10 : Sl) (y12 : Sl) (y74 : Bool) (S : HS) : Option ((Bool) × HS) :=
  (if y74 = true then
  J3 D H k y0 y6 true S else
  (Option.bind (rollcallref10_Remove.f k y12 y1 S) fun p46 =>
  (Option.bind (rollcallref10_Same.f k y10 p46.1 p46.2) fun p47 =>
  J3 D H k y0 y6 (!p47.1) p47.2)))
theorem J2_snd {D : Dp} {H : Hd} {k : Nat} (hD : DSound Try.prog base W0 D) (hH : HSound Try.prog base W0 β0 H)  {y0 : Sl} {y1 : Int} {y6 : Sl} {y10 : Sl} {y12 : Sl} {y74 : Bool} {S : HS} {p : (Bool) × HS} {g2 g3 g4 g5 g7 g8 g9 g11 g13 g14 g15 g16 g17 g18 g19 g20 g21 g22 g23 g24 g25 g26 g27 g28 g29 g30 g31 g32 g33 g34 g35 g36 g37 g38 g39 g40 g41 g42 g43 g44 g45 g46 g47 g48 g49 g50 g51 g52 g53 g54 g55 g56 g57 g58 g59 g60 g61 g62 g63 g64 g65 g66 g67 g68 g69 g70 g71 g72 g73 g75 g76 g77 g78 g79 g80 g81 g82 g83 g84 g85 g86 g87 g88 g89 g90 g91 g92 g93 g94 g95 g96 g97 g98 g99 g100 g101 g102 g103 g104 g105 g106 g107 g108 g109 g110 g111 g112 g113 g114 g115 g116 g117 g118 g119 g120 g121 g122 g123 g124 g125 g126 : HV} (h : J2 D H k y0 y1 y6 y10 y12 y74 S = some p) : HRun Try.prog base W0 β0 3 none [.inRegion r55 [12, 13, 14, 15, 16, 17, 18, 19], .code c56, .code c61] ⟨[(Sl.hv y0), (.int .i64 y1), g2, g3, g4, g5, (Sl.hv y6), g7, g8, g9, (Sl.hv y10), g11, (Sl.hv y12), g13, g14, g15, g16, g17, g18, g19, g20, g21, g22, g23, g24, g25, g26, g27, g28, g29, g30, g31, g32, g33, g34, g35, g36, g37, g38, g39, g40, g41, g42, g43, g44, g45, g46, g47, g48, g49, g50, g51, g52, g53, g54, g55, g56, g57, g58, g59, g60, g61, g62, g63, g64, g65, g66, g67, g68, g69, g70, g71, g72, g73, (.bool y74), g75, g76, g77, g78, g79, g80, g81, g82, g83, g84, g85, g86, g87, g88, g89, g90, g91, g92, g93, g94, g95, g96, g97, g98, g99, g100, g101, g102, g103, g104, g105, g106, g107, g108, g109, g110, g111, g112, g113, g114, g115, g116, g117, g118, g119, g120, g121, g122, g123, g124, g125, g126], []⟩ S (fun v S1 => v = (.bool p.1) ∧ S1 = p.2) := by
  unfold J2 at h
  refine q_op (dst := some 75) rfl (fun _ ho => ok_move ho (.tmp rfl)) ?_
  rcases ifc h with ⟨hc26, h⟩ | ⟨hc26, h⟩
  · refine q_skip (dst := some 76) (t := 75) rfl rfl rfl hc26 ?_
    refine q_skip (dst := some 77) (t := 75) rfl rfl rfl hc26 ?_
    refine q_skip (dst := some 78) (t := 75) rfl rfl rfl hc26 ?_
    try dsimp only [HAct.put, List.set_cons_zero, List.set_cons_succ]
    refine q_skip (dst := some 79) (t := 75) rfl rfl rfl hc26 ?_
    refine q_skip (dst := some 80) (t := 75) rfl rfl rfl hc26 ?_
    refine q_skip (dst := some 81) (t := 75) rfl rfl rfl hc26 ?_
    refine q_op (dst := some 82) rfl (fun _ ho => ok_pick_tt ho (.tmp rfl) hc26 (.bool _)) ?_
    refine hr_region_end ?_
    try dsimp only [HAct.put, List.set_cons_zero, List.set_cons_succ]
    try dsimp only [HAct.put, List.set_cons_zero, List.set_cons_succ]
    exact J3_snd hD hH h
  · refine q_op_g (t := 75) (dst := some 76) rfl rfl rfl (bfalse hc26) (fun _ ho => ok_move ho (.tmp rfl)) ?_
    refine q_op_g (t := 75) (dst := some 77) rfl rfl rfl (bfalse hc26) (fun _ ho => ok_move ho (.tmp rfl)) ?_
    refine q_op_g (t := 75) (dst := some 78) rfl rfl rfl (bfalse hc26) (fun _ ho => ok_move ho (.tmp rfl)) ?_
    try dsimp only [HAct.put, List.set_cons_zero, List.set_cons_succ]
    obtain ⟨p46, hp46, h⟩ := bindo h
    refine q_call_g (t := 75) (dst := some 79) rfl rfl rfl (bfalse hc26) (.func _) (.cons (.tmp rfl) (.cons (.tmp rfl) Evs.nil)) (HInv.static rollcallref10_Remove.at_ rollcallref10_Remove.body (rollcallref10_Remove.snd  hp46)) ?_
    rintro _ _ ⟨rfl, rfl⟩
    obtain ⟨p47, hp47, h⟩ := bindo h
    refine q_call_g (t := 75) (dst := some 80) rfl rfl rfl (bfalse hc26) (.func _) (.cons (.tmp rfl) (.cons (.tmp rfl) Evs.nil)) (HInv.static rollcallref10_Same.at_ rollcallref10_Same.body (rollcallref10_Same.snd  hp47)) ?_
    rintro _ _ ⟨rfl, rfl⟩
    refine q_op_g (t := 75) (dst := some 81) rfl rfl rfl (bfalse hc26) (fun _ ho => ok_not ho (.tmp rfl)) ?_
    refine q_op (dst := some 82) rfl (fun _ ho => ok_pick_ff ho (.tmp rfl) (bfalse hc26) (.tmp rfl)) ?_
    refine hr_region_end ?_
    try dsimp only [HAct.put, List.set_cons_zero, List.set_cons_succ]
    try dsimp only [HAct.put, List.set_cons_zero, List.set_cons_succ]
    exact J3_snd hD hH h
def J1 (D : Dp) (H : Hd) (k : Nat) (y0 : Sl) (y1 : Int) (y6 : Sl) (y8 : Sl) (y10 : Sl) (y12 : Sl) (y68 : Bool) (S : HS) : Option ((Bool) × HS) :=
  (if y68 = true then
  J2 D H k y0 y1 y6 y10 y12 true S else
  (Option.bind (rollcallref10_Same.f k y8 y12 S) fun p48 =>
  J2 D H k y0 y1 y6 y10 y12 (!p48.1) p48.2))
theorem J1_snd {D : Dp} {H : Hd} {k : Nat} (hD : DSound Try.prog base W0 D) (hH : HSound Try.prog base W0 β0 H)  {y0 : Sl} {y1 : Int} {y6 : Sl} {y8 : Sl} {y10 : Sl} {y12 : Sl} {y68 : Bool} {S : HS} {p : (Bool) × HS} {g2 g3 g4 g5 g7 g9 g11 g13 g14 g15 g16 g17 g18 g19 g20 g21 g22 g23 g24 g25 g26 g27 g28 g29 g30 g31 g32 g33 g34 g35 g36 g37 g38 g39 g40 g41 g42 g43 g44 g45 g46 g47 g48 g49 g50 g51 g52 g53 g54 g55 g56 g57 g58 g59 g60 g61 g62 g63 g64 g65 g66 g67 g69 g70 g71 g72 g73 g74 g75 g76 g77 g78 g79 g80 g81 g82 g83 g84 g85 g86 g87 g88 g89 g90 g91 g92 g93 g94 g95 g96 g97 g98 g99 g100 g101 g102 g103 g104 g105 g106 g107 g108 g109 g110 g111 g112 g113 g114 g115 g116 g117 g118 g119 g120 g121 g122 g123 g124 g125 g126 : HV} (h : J1 D H k y0 y1 y6 y8 y10 y12 y68 S = some p) : HRun Try.prog base W0 β0 3 none [.inRegion r55 [6, 7, 8, 9, 10, 11, 12, 13, 14, 15, 16, 17, 18, 19], .code c56, .code c61] ⟨[(Sl.hv y0), (.int .i64 y1), g2, g3, g4, g5, (Sl.hv y6), g7, (Sl.hv y8), g9, (Sl.hv y10), g11, (Sl.hv y12), g13, g14, g15, g16, g17, g18, g19, g20, g21, g22, g23, g24, g25, g26, g27, g28, g29, g30, g31, g32, g33, g34, g35, g36, g37, g38, g39, g40, g41, g42, g43, g44, g45, g46, g47, g48, g49, g50, g51, g52, g53, g54, g55, g56, g57, g58, g59, g60, g61, g62, g63, g64, g65, g66, g67, (.bool y68), g69, g70, g71, g72, g73, g74, g75, g76, g77, g78, g79, g80, g81, g82, g83, g84, g85, g86, g87, g88, g89, g90, g91, g92, g93, g94, g95, g96, g97, g98, g99, g100, g101, g102, g103, g104, g105, g106, g107, g108, g109, g110, g111, g112, g113, g114, g115, g116, g117, g118, g119, g120, g121, g122, g123, g124, g125, g126], []⟩ S (fun v S1 => v = (.bool p.1) ∧ S1 = p.2) := by
  unfold J1 at h
  refine q_op (dst := some 69) rfl (fun _ ho => ok_move ho (.tmp rfl)) ?_
  rcases ifc h with ⟨hc25, h⟩ | ⟨hc25, h⟩
  · refine q_skip (dst := some 70) (t := 69) rfl rfl rfl hc25 ?_
    try dsimp only [HAct.put, List.set_cons_zero, List.set_cons_succ]
    refine q_skip (dst := some 71) (t := 69) rfl rfl rfl hc25 ?_
    refine q_skip (dst := some 72) (t := 69) rfl rfl rfl hc25 ?_
    refine q_skip (dst := some 73) (t := 69) rfl rfl rfl hc25 ?_
    refine q_op (dst := some 74) rfl (fun _ ho => ok_pick_tt ho (.tmp rfl) hc25 (.bool _)) ?_
    try dsimp only [HAct.put, List.set_cons_zero, List.set_cons_succ]
    try dsimp only [HAct.put, List.set_cons_zero, List.set_cons_succ]
    exact J2_snd hD hH h
  · refine q_op_g (t := 69) (dst := some 70) rfl rfl rfl (bfalse hc25) (fun _ ho => ok_move ho (.tmp rfl)) ?_
    try dsimp only [HAct.put, List.set_cons_zero, List.set_cons_succ]
    refine q_op_g (t := 69) (dst := some 71) rfl rfl rfl (bfalse hc25) (fun _ ho => ok_move ho (.tmp rfl)) ?_
    obtain ⟨p48, hp48, h⟩ := bindo h
    refine q_call_g (t := 69) (dst := some 72) rfl rfl rfl (bfalse hc25) (.func _) (.cons (.tmp rfl) (.cons (.tmp rfl) Evs.nil)) (HInv.static rollcallref10_Same.at_ rollcallref10_Same.body (rollcallref10_Same.snd  hp48)) ?_
    rintro _ _ ⟨rfl, rfl⟩
    refine q_op_g (t := 69) (dst := some 73) rfl rfl rfl (bfalse hc25) (fun _ ho => ok_not ho (.tmp rfl)) ?_
    refine q_op (dst := some 74) rfl (fun _ ho => ok_pick_ff ho (.tmp rfl) (bfalse hc25) (.tmp rfl)) ?_
    try dsimp only [HAct.put, List.set_cons_zero, List.set_cons_succ]
    try dsimp only [HAct.put, List.set_cons_zero, List.set_cons_succ]
    exact J2_snd hD hH h
def L0 (D : Dp) (H : Hd) (k : Nat) : Nat → Sl → Int → Sl → Sl → Int → HS → Option ((Bool) × HS)
  | 0, _, _, _, _, _, _ => none
  | n + 1, y0, y1, y5, y6, y7, S =>
    (if y7 < (Sl.len y0 : Int) then
    (Option.bind (HS.idx S y0 y7 1) fun p5 =>
    (Option.bind (HS.ldSl S p5) fun p6 =>
    (if (Sl.len p6 : Int) > 20 then
    some (true, S) else
    (Option.bind (HS.idx S y0 y7 1) fun p8 =>
    (Option.bind (HS.ldSl S p8) fun p9 =>
    (Option.bind (HS.rows S p9 1) fun p10 =>
    (Option.bind (HS.app S y5 p10 1) fun p11 =>
    (Option.bind (HS.idx (p11.2) y0 y7 1) fun p12 =>
    (Option.bind (HS.ldSl (p11.2) p12) fun p13 =>
    (Option.bind (set_Of_int.f k p13 (p11.2)) fun p14 =>
    (letv (HS.lit p14.2 [[(.ptr p14.1)]] 1) fun p15 =>
    (Option.bind (HS.rows (p15.2) (p15.1) 1) fun p16 =>
    (Option.bind (HS.app (p15.2) y6 p16 1) fun p17 =>
    (L0 D H k n) y0 y1 (p11.1) (p17.1) (w64 (y7 + 1)) (p17.2)))))))))))))) else
    (Option.bind (set_Union_int.f k y6 S) fun p18 =>
    (Option.bind (rollcalllaw10_told.f D H p18.1 300 p18.2) fun p19 =>
    (Option.bind (set_Union_int.f k y6 p19.2) fun p20 =>
    (Option.bind (set_Without_int.f p20.1 y1 p20.2) fun p21 =>
    (Option.bind (rollcalllaw10_told.f D H p21.1 300 p21.2) fun p22 =>
    (Option.bind (rollcallref10_All.f k y5 p22.2) fun p23 =>
    (if (!p19.1.2) = true then
    J1 D H k y0 y1 y6 p19.1.1 p22.1.1 p23.1 true p23.2 else
    J1 D H k y0 y1 y6 p19.1.1 p22.1.1 p23.1 (!p22.1.2) p23.2))))))))
theorem L0_snd {D : Dp} {H : Hd} {k : Nat} (hD : DSound Try.prog base W0 D) (hH : HSound Try.prog base W0 β0 H)  : ∀ {n : Nat} ⦃y0 : Sl⦄ ⦃y1 : Int⦄ ⦃y5 : Sl⦄ ⦃y6 : Sl⦄ ⦃y7 : Int⦄ ⦃S : HS⦄ ⦃p : (Bool) × HS⦄ ⦃g2 g3 g4 g8 g9 g10 g11 g12 g13 g14 g15 g16 g17 g18 g19 g20 g21 g22 g23 g24 g25 g26 g27 g28 g29 g30 g31 g32 g33 g34 g35 g36 g37 g38 g39 g40 g41 g42 g43 g44 g45 g46 g47 g48 g49 g50 g51 g52 g53 g54 g55 g56 g57 g58 g59 g60 g61 g62 g63 g64 g65 g66 g67 g68 g69 g70 g71 g72 g73 g74 g75 g76 g77 g78 g79 g80 g81 g82 g83 g84 g85 g86 g87 g88 g89 g90 g91 g92 g93 g94 g95 g96 g97 g98 g99 g100 g101 g102 g103 g104 g105 g106 g107 g108 g109 g110 g111 g112 g113 g114 g115 g116 g117 g118 g119 g120 g121 g122 g123 g124 g125 g126 : HV⦄, L0 D H k n y0 y1 y5 y6 y7 S = some p → HRun Try.prog base W0 β0 3 none [.inLoop c27, .inBlock 0, .code c47] ⟨[(Sl.hv y0), (.int .i64 y1), g2, g3, g4, (Sl.hv y5), (Sl.hv y6), (.int .i64 y7), g8, g9, g10, g11, g12, g13, g14, g15, g16, g17, g18, g19, g20, g21, g22, g23, g24, g25, g26, g27, g28, g29, g30, g31, g32, g33, g34, g35, g36, g37, g38, g39, g40, g41, g42, g43, g44, g45, g46, g47, g48, g49, g50, g51, g52, g53, g54, g55, g56, g57, g58, g59, g60, g61, g62, g63, g64, g65, g66, g67, g68, g69, g70, g71, g72, g73, g74, g75, g76, g77, g78, g79, g80, g81, g82, g83, g84, g85, g86, g87, g88, g89, g90, g91, g92, g93, g94, g95, g96, g97, g98, g99, g100, g101, g102, g103, g104, g105, g106, g107, g108, g109, g110, g111, g112, g113, g114, g115, g116, g117, g118, g119, g120, g121, g122, g123, g124, g125, g126], []⟩ S (fun v S1 => v = (.bool p.1) ∧ S1 = p.2) := by
  intro n
  induction n with
  | zero => intro _ _ _ _ _ _ _ _ _ _ _ _ _ _ _ _ _ _ _ _ _ _ _ _ _ _ _ _ _ _ _ _ _ _ _ _ _ _ _ _ _ _ _ _ _ _ _ _ _ _ _ _ _ _ _ _ _ _ _ _ _ _ _ _ _ _ _ _ _ _ _ _ _ _ _ _ _ _ _ _ _ _ _ _ _ _ _ _ _ _ _ _ _ _ _ _ _ _ _ _ _ _ _ _ _ _ _ _ _ _ _ _ _ _ _ _ _ _ _ _ _ _ _ _ _ _ _ _ _ h; cases h
  | succ n ih =>
    intro y0 y1 y5 y6 y7 S p g2 g3 g4 g8 g9 g10 g11 g12 g13 g14 g15 g16 g17 g18 g19 g20 g21 g22 g23 g24 g25 g26 g27 g28 g29 g30 g31 g32 g33 g34 g35 g36 g37 g38 g39 g40 g41 g42 g43 g44 g45 g46 g47 g48 g49 g50 g51 g52 g53 g54 g55 g56 g57 g58 g59 g60 g61 g62 g63 g64 g65 g66 g67 g68 g69 g70 g71 g72 g73 g74 g75 g76 g77 g78 g79 g80 g81 g82 g83 g84 g85 g86 g87 g88 g89 g90 g91 g92 g93 g94 g95 g96 g97 g98 g99 g100 g101 g102 g103 g104 g105 g106 g107 g108 g109 g110 g111 g112 g113 g114 g115 g116 g117 g118 g119 g120 g121 g122 g123 g124 g125 g126 h
    simp only [L0] at h
    refine hr_inLoop ?_
    refine q_seq e27 ?_
    refine q_seq e28 ?_
    refine q_region e29 rfl ?_
    refine q_op (dst := some 21) rfl (fun _ ho => ok_move ho (.tmp rfl)) ?_
    refine q_op (dst := some 22) rfl (fun _ ho => ok_move ho (.tmp rfl)) ?_
    refine q_op (dst := some 23) rfl (fun _ ho => ok_len_sl (q := Sl.a y0) (n := Sl.len y0) (z := Sl.cap y0) ho rfl tu22 (.tmp rfl)) ?_
    refine q_op (dst := some 24) rfl (fun _ ho => ok_ibin ho (.tmp rfl) (.tmp rfl) rfl) ?_
    refine hr_region_end ?_
    try dsimp only [HAct.put, List.set_cons_zero, List.set_cons_succ]
    rcases ifc h with ⟨hc4, h⟩ | ⟨hc4, h⟩
    · refine q_cond_t e30 (.tmp rfl) (decide_eq_true hc4) ?_
      refine q_skipc e31 ?_
      refine q_seq e33 ?_
      refine q_block e34 ?_
      refine q_seq e35 ?_
      refine q_seq e36 ?_
      refine q_region e37 rfl ?_
      refine q_op (dst := some 27) rfl (fun _ ho => ok_move ho (.tmp rfl)) ?_
      refine q_op (dst := some 28) rfl (fun _ ho => ok_move ho (.tmp rfl)) ?_
      obtain ⟨p5, hp5, h⟩ := bindo h
      refine q_op (dst := some 29) rfl (fun _ ho => ok_indexAddr (s := y0) ho tu22 sz24 (.tmp rfl) (.tmp rfl) hp5) ?_
      obtain ⟨p6, hp6, h⟩ := bindo h
      refine q_op (dst := some 30) rfl (fun _ ho => ok_load_s ho sc24 (.tmp rfl) rfl (ldSl_out hp6)) ?_
      try dsimp only [HAct.put, List.set_cons_zero, List.set_cons_succ]
      refine q_op (dst := some 31) rfl (fun _ ho => ok_len_sl (q := Sl.a p6) (n := Sl.len p6) (z := Sl.cap p6) ho rfl tu24 (.tmp rfl)) ?_
      refine q_op (dst := some 32) rfl (fun _ ho => ok_ibin ho (.tmp rfl) (.int _ _) rfl) ?_
      refine hr_region_end ?_
      try dsimp only [HAct.put, List.set_cons_zero, List.set_cons_succ]
      rcases ifc h with ⟨hc7, h⟩ | ⟨hc7, h⟩
      · refine q_cond_t e38 (.tmp rfl) (decide_eq_true hc7) ?_
        refine q_seq e39 ?_
        refine q_region e40 rfl ?_
        refine q_op (dst := some 4) rfl (fun _ ho => ok_assign ho (.bool _)) ?_
        refine hr_region_end ?_
        try dsimp only [HAct.put, List.set_cons_zero, List.set_cons_succ]
        cases h
        exact q_ret e41 at_.at_ rfl (res1 rfl rfl) ⟨rfl, rfl⟩
      · refine q_cond_f e38 (.tmp rfl) (decide_eq_false hc7) ?_
        refine q_skipc e42 ?_
        refine q_seq e43 ?_
        refine q_region e44 rfl ?_
        refine q_op (dst := some 33) rfl (fun _ ho => ok_move ho (.tmp rfl)) ?_
        refine q_op (dst := some 34) rfl (fun _ ho => ok_move ho (.tmp rfl)) ?_
        refine q_op (dst := some 35) rfl (fun _ ho => ok_move ho (.tmp rfl)) ?_
        obtain ⟨p8, hp8, h⟩ := bindo h
        refine q_op (dst := some 36) rfl (fun _ ho => ok_indexAddr (s := y0) ho tu22 sz24 (.tmp rfl) (.tmp rfl) hp8) ?_
        try dsimp only [HAct.put, List.set_cons_zero, List.set_cons_succ]
        obtain ⟨p9, hp9, h⟩ := bindo h
        refine q_op (dst := some 37) rfl (fun _ ho => ok_load_s ho sc24 (.tmp rfl) rfl (ldSl_out hp9)) ?_
        obtain ⟨p10, hp10, h⟩ := bindo h
        obtain ⟨p11, hp11, h⟩ := bindo h
        refine q_op (dst := some 38) rfl (fun _ ho => ok_append (s := y5) (s1 := p9) el24 ho rfl rfl ⟨_, tu24⟩ (.tmp rfl) (.tmp rfl) hp10 hp11) ?_
        refine q_op (dst := some 5) rfl (fun _ ho => ok_assign ho (.tmp rfl)) ?_
        refine hr_region_end ?_
        try dsimp only [HAct.put, List.set_cons_zero, List.set_cons_succ]
        refine q_region e45 rfl ?_
        refine q_op (dst := some 39) rfl (fun _ ho => ok_move ho (.tmp rfl)) ?_
        refine q_op (dst := some 40) rfl (fun _ ho => ok_move ho (.tmp rfl)) ?_
        refine q_op (dst := some 41) rfl (fun _ ho => ok_move ho (.tmp rfl)) ?_
        obtain ⟨p12, hp12, h⟩ := bindo h
        refine q_op (dst := some 42) rfl (fun _ ho => ok_indexAddr (s := y0) ho tu22 sz24 (.tmp rfl) (.tmp rfl) hp12) ?_
        try dsimp only [HAct.put, List.set_cons_zero, List.set_cons_succ]
        obtain ⟨p13, hp13, h⟩ := bindo h
        refine q_op (dst := some 43) rfl (fun _ ho => ok_load_s ho sc24 (.tmp rfl) rfl (ldSl_out hp13)) ?_
        obtain ⟨p14, hp14, h⟩ := bindo h
        refine q_call (dst := some 44) rfl (.func _) (.cons (.tmp rfl) Evs.nil) (HInv.static set_Of_int.at_ set_Of_int.body (set_Of_int.snd  hp14)) ?_
        rintro _ _ ⟨rfl, rfl⟩
        obtain ⟨p15, hp15, h⟩ := leto h
        refine q_op (dst := some 45) rfl (fun _ ho => ok_buildSlice_s (xs := [(.tmp 44)]) el25 ho rfl rfl (by decide) (.cons (.tmp rfl) Evs.nil) rfl rfl hp15) ?_
        obtain ⟨p16, hp16, h⟩ := bindo h
        obtain ⟨p17, hp17, h⟩ := bindo h
        refine q_op (dst := some 46) rfl (fun _ ho => ok_append (s := y6) (s1 := (p15.1)) el25 ho rfl rfl ⟨_, tu25⟩ (.tmp rfl) (.tmp rfl) hp16 hp17) ?_
        try dsimp only [HAct.put, List.set_cons_zero, List.set_cons_succ]
        refine q_op (dst := some 6) rfl (fun _ ho => ok_assign ho (.tmp rfl)) ?_
        refine hr_region_end ?_
        try dsimp only [HAct.put, List.set_cons_zero, List.set_cons_succ]
        refine hr_inBlock ?_
        refine q_region e46 rfl ?_
        refine q_op (dst := some 25) rfl (fun _ ho => ok_move ho (.tmp rfl)) ?_
        refine q_op (dst := some 26) rfl (fun _ ho => ok_ibin ho (.tmp rfl) (.int _ _) rfl) ?_
        refine q_op (dst := some 7) rfl (fun _ ho => ok_assign ho (.tmp rfl)) ?_
        refine hr_region_end ?_
        try dsimp only [HAct.put, List.set_cons_zero, List.set_cons_succ]
        try dsimp only [HAct.put, List.set_cons_zero, List.set_cons_succ]
        exact ih h
    · refine q_cond_f e30 (.tmp rfl) (decide_eq_false hc4) ?_
      refine q_exit e32 rfl ?_
      refine q_seq e47 ?_
      refine q_region e48 rfl ?_
      refine q_op (dst := some 48) rfl (fun _ ho => ok_move ho (.tmp rfl)) ?_
      obtain ⟨p18, hp18, h⟩ := bindo h
      refine q_call (dst := some 49) rfl (.func _) (.cons (.tmp rfl) Evs.nil) (HInv.static set_Union_int.at_ set_Union_int.body (set_Union_int.snd  hp18)) ?_
      rintro _ _ ⟨rfl, rfl⟩
      obtain ⟨p19, hp19, h⟩ := bindo h
      refine q_call (dst := some 50) rfl (.func _) (.cons (.tmp rfl) (.cons (.int _ _) Evs.nil)) (HInv.static rollcalllaw10_told.at_ rollcalllaw10_told.body (rollcalllaw10_told.snd hD hH hp19)) ?_
      rintro _ _ ⟨rfl, rfl⟩
      refine q_op (dst := some 47) rfl (fun _ ho => ok_move ho (.tmp rfl)) ?_
      try dsimp only [HAct.put, List.set_cons_zero, List.set_cons_succ]
      refine q_op (dst := some 51) rfl (fun _ ho => ok_extract ho (.tmp rfl) rfl) ?_
      refine q_op (dst := some 52) rfl (fun _ ho => ok_extract ho (.tmp rfl) rfl) ?_
      refine q_op (dst := some 8) rfl (fun _ ho => ok_assign ho (.tmp rfl)) ?_
      refine q_op (dst := some 9) rfl (fun _ ho => ok_assign ho (.tmp rfl)) ?_
      refine hr_region_end ?_
      try dsimp only [HAct.put, List.set_cons_zero, List.set_cons_succ]
      refine q_seq e49 ?_
      refine q_region e50 rfl ?_
      refine q_op (dst := some 54) rfl (fun _ ho => ok_move ho (.tmp rfl)) ?_
      obtain ⟨p20, hp20, h⟩ := bindo h
      refine q_call (dst := some 55) rfl (.func _) (.cons (.tmp rfl) Evs.nil) (HInv.static set_Union_int.at_ set_Union_int.body (set_Union_int.snd  hp20)) ?_
      rintro _ _ ⟨rfl, rfl⟩
      refine q_op (dst := some 56) rfl (fun _ ho => ok_move ho (.tmp rfl)) ?_
      obtain ⟨p21, hp21, h⟩ := bindo h
      refine q_call (dst := some 57) rfl (.func _) (.cons (.tmp rfl) (.cons (.tmp rfl) Evs.nil)) (HInv.static set_Without_int.at_ set_Without_int.body (set_Without_int.snd  hp21)) ?_
      rintro _ _ ⟨rfl, rfl⟩
      try dsimp only [HAct.put, List.set_cons_zero, List.set_cons_succ]
      obtain ⟨p22, hp22, h⟩ := bindo h
      refine q_call (dst := some 58) rfl (.func _) (.cons (.tmp rfl) (.cons (.int _ _) Evs.nil)) (HInv.static rollcalllaw10_told.at_ rollcalllaw10_told.body (rollcalllaw10_told.snd hD hH hp22)) ?_
      rintro _ _ ⟨rfl, rfl⟩
      refine q_op (dst := some 53) rfl (fun _ ho => ok_move ho (.tmp rfl)) ?_
      refine q_op (dst := some 59) rfl (fun _ ho => ok_extract ho (.tmp rfl) rfl) ?_
      refine q_op (dst := some 60) rfl (fun _ ho => ok_extract ho (.tmp rfl) rfl) ?_
      try dsimp only [HAct.put, List.set_cons_zero, List.set_cons_succ]
      refine q_op (dst := some 10) rfl (fun _ ho => ok_assign ho (.tmp rfl)) ?_
      refine q_op (dst := some 11) rfl (fun _ ho => ok_assign ho (.tmp rfl)) ?_
      refine hr_region_end ?_
      try dsimp only [HAct.put, List.set_cons_zero, List.set_cons_succ]
      refine q_seq e51 ?_
      refine q_region e52 rfl ?_
      refine q_op (dst := some 61) rfl (fun _ ho => ok_move ho (.tmp rfl)) ?_
      obtain ⟨p23, hp23, h⟩ := bindo h
      refine q_call (dst := some 62) rfl (.func _) (.cons (.tmp rfl) Evs.nil) (HInv.static rollcallref10_All.at_ rollcallref10_All.body (rollcallref10_All.snd  hp23)) ?_
      rintro _ _ ⟨rfl, rfl⟩
      refine q_op (dst := some 12) rfl (fun _ ho => ok_assign ho (.tmp rfl)) ?_
      refine hr_region_end ?_
      try dsimp only [HAct.put, List.set_cons_zero, List.set_cons_succ]
      refine q_seq e53 ?_
      refine q_seq e54 ?_
      refine q_region e55 rfl ?_
      refine q_op (dst := some 63) rfl (fun _ ho => ok_move ho (.tmp rfl)) ?_
      refine q_op (dst := some 64) rfl (fun _ ho => ok_not ho (.tmp rfl)) ?_
      refine q_op (dst := some 65) rfl (fun _ ho => ok_move ho (.tmp rfl)) ?_
      rcases ifc h with ⟨hc24, h⟩ | ⟨hc24, h⟩
      · refine q_skip (dst := some 66) (t := 65) rfl rfl rfl hc24 ?_
        try dsimp only [HAct.put, List.set_cons_zero, List.set_cons_succ]
        refine q_skip (dst := some 67) (t := 65) rfl rfl rfl hc24 ?_
        refine q_op (dst := some 68) rfl (fun _ ho => ok_pick_tt ho (.tmp rfl) hc24 (.bool _)) ?_
        try dsimp only [HAct.put, List.set_cons_zero, List.set_cons_succ]
        exact J1_snd hD hH h
      · refine q_op_g (t := 65) (dst := some 66) rfl rfl rfl (bfalse hc24) (fun _ ho => ok_move ho (.tmp rfl)) ?_
        try dsimp only [HAct.put, List.set_cons_zero, List.set_cons_succ]
        refine q_op_g (t := 65) (dst := some 67) rfl rfl rfl (bfalse hc24) (fun _ ho => ok_not ho (.tmp rfl)) ?_
        refine q_op (dst := some 68) rfl (fun _ ho => ok_pick_ff ho (.tmp rfl) (bfalse hc24) (.tmp rfl)) ?_
        try dsimp only [HAct.put, List.set_cons_zero, List.set_cons_succ]
        exact J1_snd hD hH h
def f (D : Dp) (H : Hd) (k : Nat) (x0 : Sl) (x1 : Int) (S : HS) : Option ((Bool) × HS) :=
  (Option.bind (rollcalllaw10_awake.f D H k S) fun p1 =>
  (if (!p1.1) = true then
  some (false, p1.2) else
  (if (Sl.len x0 : Int) > 10 then
  some (true, p1.2) else
  L0 D H k k x0 x1 Sl.nil Sl.nil 0 p1.2)))
theorem snd {D : Dp} {H : Hd} {k : Nat} {x0 : Sl} {x1 : Int} {S : HS} (hD : DSound Try.prog base W0 D) (hH : HSound Try.prog base W0 β0 H)  {p : (Bool) × HS} (h : f D H k x0 x1 S = some p) : HCall Try.prog base W0 β0 3 [(Sl.hv x0), (.int .i64 x1)] S (fun v S1 => v = (.bool p.1) ∧ S1 = p.2) := by
  unfold f at h
  refine HCall.of_run at_.at_ body ?_
  show HRun Try.prog base W0 β0 3 none [.code c0] ⟨[(Sl.hv x0), (.int .i64 x1), .tup [], .tup [], .tup [], .tup [], .tup [], .tup [], .tup [], .tup [], .tup [], .tup [], .tup [], .tup [], .tup [], .tup [], .tup [], .tup [], .tup [], .tup [], .tup [], .tup [], .tup [], .tup [], .tup [], .tup [], .tup [], .tup [], .tup [], .tup [], .tup [], .tup [], .tup [], .tup [], .tup [], .tup [], .tup [], .tup [], .tup [], .tup [], .tup [], .tup [], .tup [], .tup [], .tup [], .tup [], .tup [], .tup [], .tup [], .tup [], .tup [], .tup [], .tup [], .tup [], .tup [], .tup [], .tup [], .tup [], .tup [], .tup [], .tup [], .tup [], .tup [], .tup [], .tup [], .tup [], .tup [], .tup [], .tup [], .tup [], .tup [], .tup [], .tup [], .tup [], .tup [], .tup [], .tup [], .tup [], .tup [], .tup [], .tup [], .tup [], .tup [], .tup [], .tup [], .tup [], .tup [], .tup [], .tup [], .tup [], .tup [], .tup [], .tup [], .tup [], .tup [], .tup [], .tup [], .tup [], .tup [], .tup [], .tup [], .tup [], .tup [], .tup [], .tup [], .tup [], .tup [], .tup [], .tup [], .tup [], .tup [], .tup [], .tup [], .tup [], .tup [], .tup [], .tup [], .tup [], .tup [], .tup [], .tup [], .tup [], .tup [], .tup [], .tup [], .tup [], .tup []], []⟩ S _
  refine q_seq e0 ?_
  refine q_region e1 rfl ?_
  refine q_op (dst := some 4) rfl (fun _ ho => ok_assign ho (.bool _)) ?_
  refine hr_region_end ?_
  try dsimp only [HAct.put, List.set_cons_zero, List.set_cons_succ]
  refine q_seq e2 ?_
  refine q_seq e3 ?_
  refine q_region e4 rfl ?_
  obtain ⟨p1, hp1, h⟩ := bindo h
  refine q_call (dst := some 16) rfl (.func _) Evs.nil (HInv.static rollcalllaw10_awake.at_ rollcalllaw10_awake.body (rollcalllaw10_awake.snd hD hH hp1)) ?_
  rintro _ _ ⟨rfl, rfl⟩
  refine q_op (dst := some 17) rfl (fun _ ho => ok_not ho (.tmp rfl)) ?_
  refine hr_region_end ?_
  try dsimp only [HAct.put, List.set_cons_zero, List.set_cons_succ]
  rcases ifc h with ⟨hc2, h⟩ | ⟨hc2, h⟩
  · refine q_cond_t e5 (.tmp rfl) hc2 ?_
    refine q_seq e6 ?_
    refine q_region e7 rfl ?_
    refine q_op (dst := some 4) rfl (fun _ ho => ok_assign ho (.bool _)) ?_
    refine hr_region_end ?_
    try dsimp only [HAct.put, List.set_cons_zero, List.set_cons_succ]
    cases h
    exact q_ret e8 at_.at_ rfl (res1 rfl rfl) ⟨rfl, rfl⟩
  · refine q_cond_f e5 (.tmp rfl) (bfalse hc2) ?_
    refine q_skipc e9 ?_
    refine q_seq e10 ?_
    refine q_seq e11 ?_
    refine q_region e12 rfl ?_
    refine q_op (dst := some 18) rfl (fun _ ho => ok_move ho (.tmp rfl)) ?_
    refine q_op (dst := some 19) rfl (fun _ ho => ok_len_sl (q := Sl.a x0) (n := Sl.len x0) (z := Sl.cap x0) ho rfl tu22 (.tmp rfl)) ?_
    refine q_op (dst := some 20) rfl (fun _ ho => ok_ibin ho (.tmp rfl) (.int _ _) rfl) ?_
    refine hr_region_end ?_
    try dsimp only [HAct.put, List.set_cons_zero, List.set_cons_succ]
    rcases ifc h with ⟨hc3, h⟩ | ⟨hc3, h⟩
    · refine q_cond_t e13 (.tmp rfl) (decide_eq_true hc3) ?_
      refine q_seq e14 ?_
      refine q_region e15 rfl ?_
      refine q_op (dst := some 4) rfl (fun _ ho => ok_assign ho (.bool _)) ?_
      refine hr_region_end ?_
      try dsimp only [HAct.put, List.set_cons_zero, List.set_cons_succ]
      cases h
      exact q_ret e16 at_.at_ rfl (res1 rfl rfl) ⟨rfl, rfl⟩
    · refine q_cond_f e13 (.tmp rfl) (decide_eq_false hc3) ?_
      refine q_skipc e17 ?_
      refine q_seq e18 ?_
      refine q_region e19 rfl ?_
      refine q_op (dst := some 5) rfl (fun _ ho => ok_assign ho (.const fun _ => .slNil none)) ?_
      refine hr_region_end ?_
      try dsimp only [HAct.put, List.set_cons_zero, List.set_cons_succ]
      refine q_seq e20 ?_
      refine q_region e21 rfl ?_
      refine q_op (dst := some 6) rfl (fun _ ho => ok_assign ho (.const fun _ => .slNil none)) ?_
      refine hr_region_end ?_
      try dsimp only [HAct.put, List.set_cons_zero, List.set_cons_succ]
      refine q_seq e22 ?_
      refine q_seq e23 ?_
      refine q_region e24 rfl ?_
      refine q_op (dst := some 7) rfl (fun _ ho => ok_assign ho (.int _ _)) ?_
      refine hr_region_end ?_
      try dsimp only [HAct.put, List.set_cons_zero, List.set_cons_succ]
      refine q_block e25 ?_
      refine q_loop e26 ?_
      try dsimp only [HAct.put, List.set_cons_zero, List.set_cons_succ]
      exact L0_snd hD hH h
end
end rollcalllaw10_SetUnions
namespace slices_Delete_int_int
abbrev id : Nat := 27
theorem at_ : FnAt Try.prog 27 Try.f27 := ⟨Try.func27, by kernel_rfl⟩
noncomputable def c0 : Code := (Try.f27.body).getD .skip
noncomputable def c1 : Code := match c0 with | .seq x _ => x | _ => .skip
noncomputable def c2 : Code := match c0 with | .seq _ x => x | _ => .skip
noncomputable def c3 : Code := match c2 with | .seq x _ => x | _ => .skip
noncomputable def c4 : Code := match c2 with | .seq _ x => x | _ => .skip
noncomputable def c5 : Code := match c4 with | .seq x _ => x | _ => .skip
noncomputable def c6 : Code := match c5 with | .seq x _ => x | _ => .skip
noncomputable def c7 : Code := match c5 with | .seq _ x => x | _ => .skip
noncomputable def c8 : Code := match c7 with | .cond _ x _ => x | _ => .skip
noncomputable def c9 : Code := match c8 with | .seq x _ => x | _ => .skip
noncomputable def c10 : Code := match c8 with | .seq _ x => x | _ => .skip
noncomputable def c11 : Code := match c7 with | .cond _ _ x => x | _ => .skip
noncomputable def c12 : Code := match c4 with | .seq _ x => x | _ => .skip
noncomputable def c13 : Code := match c12 with | .seq x _ => x | _ => .skip
noncomputable def c14 : Code := match c12 with | .seq _ x => x | _ => .skip
noncomputable def c15 : Code := match c14 with | .seq x _ => x | _ => .skip
noncomputable def c16 : Code := match c14 with | .seq _ x => x | _ => .skip
noncomputable def c17 : Code := match c16 with | .seq x _ => x | _ => .skip
noncomputable def c18 : Code := match c16 with | .seq _ x => x | _ => .skip
noncomputable def c19 : Code := match c18 with | .seq x _ => x | _ => .skip
noncomputable def c20 : Code := match c18 with | .seq _ x => x | _ => .skip
theorem e0 : c0 = .seq c1 c2 := by kernel_rfl
noncomputable def r1 : Array Oper := match c1 with | .region _ x _ => x | _ => #[]
theorem e1 : c1 = .region 0 r1 false := by kernel_rfl
theorem e2 : c2 = .seq c3 c4 := by kernel_rfl
noncomputable def r3 : Array Oper := match c3 with | .region _ x _ => x | _ => #[]
theorem e3 : c3 = .region 1 r3 false := by kernel_rfl
theorem e4 : c4 = .seq c5 c12 := by kernel_rfl
theorem e5 : c5 = .seq c6 c7 := by kernel_rfl
noncomputable def r6 : Array Oper := match c6 with | .region _ x _ => x | _ => #[]
theorem e6 : c6 = .region 2 r6 false := by kernel_rfl
theorem e7 : c7 = .cond (.tmp 16) c8 c11 := by kernel_rfl
theorem e8 : c8 = .seq c9 c10 := by kernel_rfl
noncomputable def r9 : Array Oper := match c9 with | .region _ x _ => x | _ => #[]
theorem e9 : c9 = .region 3 r9 false := by kernel_rfl
theorem e10 : c10 = .ret := by kernel_rfl
theorem e11 : c11 = .skip := by kernel_rfl
theorem e12 : c12 = .seq c13 c14 := by kernel_rfl
noncomputable def r13 : Array Oper := match c13 with | .region _ x _ => x | _ => #[]
theorem e13 : c13 = .region 4 r13 false := by kernel_rfl
theorem e14 : c14 = .seq c15 c16 := by kernel_rfl
noncomputable def r15 : Array Oper := match c15 with | .region _ x _ => x | _ => #[]
theorem e15 : c15 = .region 5 r15 true := by kernel_rfl
theorem e16 : c16 = .seq c17 c18 := by kernel_rfl
noncomputable def r17 : Array Oper := match c17 with | .region _ x _ => x | _ => #[]
theorem e17 : c17 = .region 6 r17 false := by kernel_rfl
theorem e18 : c18 = .seq c19 c20 := by kernel_rfl
noncomputable def r19 : Array Oper := match c19 with | .region _ x _ => x | _ => #[]
theorem e19 : c19 = .region 7 r19 false := by kernel_rfl
theorem e20 : c20 = .ret := by kernel_rfl
theorem body : Try.f27.body = some c0 := by kernel_rfl
section
variable {base : Nat} {W0 : World} {β0 : Bt}
def f (x0 : Sl) (x1 : Int) (x2 : Int) (S : HS) : Option ((Sl) × HS) :=
  (Option.bind (HS.cut3 S x0 x1 x2 (Sl.len x0 : Int) 1) fun p1 =>
  (if x1 = x2 then
  some (x0, S) else
  (Option.bind (HS.cut S x0 0 x1 1) fun p3 =>
  (Option.bind (HS.cut S x0 x2 (Sl.len x0 : Int) 1) fun p4 =>
  (Option.bind (HS.rows S p4 1) fun p5 =>
  (Option.bind (HS.app S p3 p5 1) fun p6 =>
  (Option.bind (HS.cut (p6.2) (p6.1) (Sl.len (p6.1) : Int) (Sl.len x0 : Int) 1) fun p7 =>
  (Option.bind (HS.over (p6.2) p7 (List.replicate (Sl.len p7) [(.int .i64 0)]) 1) fun p8 =>
  some ((p6.1), p8)))))))))
theorem snd {x0 : Sl} {x1 : Int} {x2 : Int} {S : HS}  {p : (Sl) × HS} (h : f x0 x1 x2 S = some p) : HCall Try.prog base W0 β0 27 [(Sl.hv x0), (.int .i64 x1), (.int .i64 x2)] S (fun v S1 => v = (Sl.hv p.1) ∧ S1 = p.2) := by
  unfold f at h
  refine HCall.of_run at_.at_ body ?_
  show HRun Try.prog base W0 β0 27 none [.code c0] ⟨[(Sl.hv x0), (.int .i64 x1), (.int .i64 x2), .tup [], .tup [], .tup [], .tup [], .tup [], .tup [], .tup [], .tup [], .tup [], .tup [], .tup [], .tup [], .tup [], .tup [], .tup [], .tup [], .tup [], .tup [], .tup [], .tup [], .tup [], .tup [], .tup [], .tup [], .tup [], .tup [], .tup [], .tup [], .tup [], .tup []], []⟩ S _
  refine q_seq e0 ?_
  refine q_region e1 rfl ?_
  refine q_op (dst := some 6) rfl (fun _ ho => ok_assign ho (.const fun _ => .slNil none)) ?_
  refine hr_region_end ?_
  try dsimp only [HAct.put, List.set_cons_zero, List.set_cons_succ]
  refine q_seq e2 ?_
  refine q_region e3 rfl ?_
  refine q_op (dst := some 8) rfl (fun _ ho => ok_move ho (.tmp rfl)) ?_
  refine q_op (dst := some 9) rfl (fun _ ho => ok_move ho (.tmp rfl)) ?_
  refine q_op (dst := some 10) rfl (fun _ ho => ok_move ho (.tmp rfl)) ?_
  refine q_op (dst := some 11) rfl (fun _ ho => ok_move ho (.tmp rfl)) ?_
  try dsimp only [HAct.put, List.set_cons_zero, List.set_cons_succ]
  refine q_op (dst := some 12) rfl (fun _ ho => ok_len_sl (q := Sl.a x0) (n := Sl.len x0) (z := Sl.cap x0) ho rfl tu24 (.tmp rfl)) ?_
  obtain ⟨p1, hp1, h⟩ := bindo h
  refine q_op (dst := some 13) rfl (fun _ ho => ok_slice3 (kl := .i64) (kh := .i64) (s := x0) (l := x1) (h := x2) ho tu24 si3 (.tmp rfl) (.inr ⟨_, rfl, (.tmp rfl)⟩) (.inr ⟨_, rfl, (.tmp rfl)⟩) (.tmp rfl) hp1) ?_
  refine hr_region_end ?_
  try dsimp only [HAct.put, List.set_cons_zero, List.set_cons_succ]
  refine q_seq e4 ?_
  refine q_seq e5 ?_
  refine q_region e6 rfl ?_
  refine q_op (dst := some 14) rfl (fun _ ho => ok_move ho (.tmp rfl)) ?_
  refine q_op (dst := some 15) rfl (fun _ ho => ok_move ho (.tmp rfl)) ?_
  refine q_op (dst := some 16) rfl (fun _ ho => ok_ibin ho (.tmp rfl) (.tmp rfl) rfl) ?_
  refine hr_region_end ?_
  try dsimp only [HAct.put, List.set_cons_zero, List.set_cons_succ]
  rcases ifc h with ⟨hc2, h⟩ | ⟨hc2, h⟩
  · refine q_cond_t e7 (.tmp rfl) (decide_eq_true hc2) ?_
    refine q_seq e8 ?_
    refine q_region e9 rfl ?_
    refine q_op (dst := some 17) rfl (fun _ ho => ok_move ho (.tmp rfl)) ?_
    refine q_op (dst := some 6) rfl (fun _ ho => ok_assign ho (.tmp rfl)) ?_
    refine hr_region_end ?_
    try dsimp only [HAct.put, List.set_cons_zero, List.set_cons_succ]
    cases h
    exact q_ret e10 at_.at_ rfl (res1 rfl rfl) ⟨rfl, rfl⟩
  · refine q_cond_f e7 (.tmp rfl) (decide_eq_false hc2) ?_
    refine q_skipc e11 ?_
    refine q_seq e12 ?_
    refine q_region e13 rfl ?_
    refine q_op (dst := some 18) rfl (fun _ ho => ok_move ho (.tmp rfl)) ?_
    refine q_op (dst := some 19) rfl (fun _ ho => ok_len_sl (q := Sl.a x0) (n := Sl.len x0) (z := Sl.cap x0) ho rfl tu24 (.tmp rfl)) ?_
    refine q_op (dst := some 7) rfl (fun _ ho => ok_assign ho (.tmp rfl)) ?_
    refine hr_region_end ?_
    try dsimp only [HAct.put, List.set_cons_zero, List.set_cons_succ]
    refine q_seq e14 ?_
    refine x_start (cls := [0, 0, 1, 0, 0, 1, 2, 0]) (rk := [0, 1, 2, 3, 4, 5, 6, 7]) e15 (by kernel_rfl) ?_
    refine x_go (f_op (dst := some 20) (ts := [0]) rfl (by intro _ _ h; cases h) (by kernel_rfl) (fun _ _ ho => ok_move ho (.tmp rfl))) rfl ?_
    refine x_go (f_op (dst := some 21) (ts := [1]) rfl (by intro _ _ h; cases h) (by kernel_rfl) (fun _ _ ho => ok_move ho (.tmp rfl))) rfl ?_
    obtain ⟨p3, hp3, h⟩ := bindo h
    refine x_go (r_op (dst := some 22) (ts := [20, 21]) rfl (by intro _ _ h; cases h) (by kernel_rfl) (fun _ ho => ok_slice (kl := .i64) (kh := .i64) (s := x0) (l := 0) (h := x1) ho tu24 si3 (.tmp rfl) (.inl ⟨rfl, rfl⟩) (.inr ⟨_, rfl, (.tmp rfl)⟩) hp3)) rfl ?_
    refine x_go (f_op (dst := some 23) (ts := [0]) rfl (by intro _ _ h; cases h) (by kernel_rfl) (fun _ _ ho => ok_move ho (.tmp rfl))) rfl ?_
    try dsimp only [HAct.put, List.set_cons_zero, List.set_cons_succ]
    refine x_go (f_op (dst := some 24) (ts := [2]) rfl (by intro _ _ h; cases h) (by kernel_rfl) (fun _ _ ho => ok_move ho (.tmp rfl))) rfl ?_
    obtain ⟨p4, hp4, h⟩ := bindo h
    refine x_go (r_op (dst := some 25) (ts := [23, 24]) rfl (by intro _ _ h; cases h) (by kernel_rfl) (fun _ ho => ok_slice (kl := .i64) (kh := .i64) (s := x0) (l := x2) (h := (Sl.len x0 : Int)) ho tu24 si3 (.tmp rfl) (.inr ⟨_, rfl, (.tmp rfl)⟩) (.inl ⟨rfl, rfl⟩) hp4)) rfl ?_
    obtain ⟨p5, hp5, h⟩ := bindo h
    obtain ⟨p6, hp6, h⟩ := bindo h
    refine x_go (e_op (dst := some 26) (ts := [22, 25]) rfl (by intro _ _ h; cases h) (by kernel_rfl) (fun _ ho => ok_append (s := p3) (s1 := p4) el24 ho rfl rfl ⟨_, tu24⟩ (.tmp rfl) (.tmp rfl) hp5 hp6)) rfl ?_
    refine x_go (f_op (dst := some 0) (ts := [26]) rfl (by intro _ _ h; cases h) (by kernel_rfl) (fun _ _ ho => ok_assign ho (.tmp rfl))) rfl ?_
    refine x_rest rfl ?_
    refine hr_region_end ?_
    try dsimp only [HAct.put, List.set_cons_zero, List.set_cons_succ]
    refine q_seq e16 ?_
    refine q_region e17 rfl ?_
    refine q_op (dst := some 27) rfl (fun _ ho => ok_move ho (.tmp rfl)) ?_
    refine q_op (dst := some 28) rfl (fun _ ho => ok_move ho (.tmp rfl)) ?_
    refine q_op (dst := some 29) rfl (fun _ ho => ok_len_sl (q := Sl.a (p6.1)) (n := Sl.len (p6.1)) (z := Sl.cap (p6.1)) ho rfl tu24 (.tmp rfl)) ?_
    refine q_op (dst := some 30) rfl (fun _ ho => ok_move ho (.tmp rfl)) ?_
    try dsimp only [HAct.put, List.set_cons_zero, List.set_cons_succ]
    obtain ⟨p7, hp7, h⟩ := bindo h
    refine q_op (dst := some 31) rfl (fun _ ho => ok_slice (kl := .i64) (kh := .i64) (s := (p6.1)) (l := (Sl.len (p6.1) : Int)) (h := (Sl.len x0 : Int)) ho tu24 si3 (.tmp rfl) (.inr ⟨_, rfl, (.tmp rfl)⟩) (.inr ⟨_, rfl, (.tmp rfl)⟩) hp7) ?_
    obtain ⟨p8, hp8, h⟩ := bindo h
    refine q_op (dst := none) rfl (fun _ ho => ok_clear (s := p7) el24 ho rfl (.tmp rfl) hp8) ?_
    refine hr_region_end ?_
    try dsimp only [HAct.put, List.set_cons_zero, List.set_cons_succ]
    refine q_seq e18 ?_
    refine q_region e19 rfl ?_
    refine q_op (dst := some 32) rfl (fun _ ho => ok_move ho (.tmp rfl)) ?_
    refine q_op (dst := some 6) rfl (fun _ ho => ok_assign ho (.tmp rfl)) ?_
    refine hr_region_end ?_
    try dsimp only [HAct.put, List.set_cons_zero, List.set_cons_succ]
    cases h
    exact q_ret e20 at_.at_ rfl (res1 rfl rfl) ⟨rfl, rfl⟩
end
end slices_Delete_int_int
namespace slices_Delete_int_int_w
theorem at_ : FnAt Try.prog 27 Try.f27 := slices_Delete_int_int.at_
theorem body : Try.f27.body = some slices_Delete_int_int.c0 := slices_Delete_int_int.body
def f (x0 : Sl) (x1 : Int) (x2 : Int) (S : HS) : Option ((Sl) × HS) := HS.del S x0 x1 x2 1
theorem snd {base : Nat} {W0 : World} {β0 : Bt} {x0 : Sl} {x1 x2 : Int} {S : HS} {p : (Sl) × HS} (h : f x0 x1 x2 S = some p) : HCall Try.prog base W0 β0 27 [(Sl.hv x0), (.int .i64 x1), (.int .i64 x2)] S (fun v S1 => v = (Sl.hv p.1) ∧ S1 = p.2) :=
  del_snd (zr := [(.int .i64 0)]) (fun _ _ _ h => slices_Delete_int_int.snd h) h
end slices_Delete_int_int_w
namespace set_Set_int_Remove
abbrev id : Nat := 16
theorem at_ : FnAt Try.prog 16 Try.f16 := ⟨Try.func16, by kernel_rfl⟩
noncomputable def c0 : Code := (Try.f16.body).getD .skip
noncomputable def c1 : Code := match c0 with | .seq x _ => x | _ => .skip
noncomputable def c2 : Code := match c0 with | .seq _ x => x | _ => .skip
noncomputable def c3 : Code := match c2 with | .seq x _ => x | _ => .skip
noncomputable def c4 : Code := match c2 with | .seq _ x => x | _ => .skip
noncomputable def c5 : Code := match c4 with | .seq x _ => x | _ => .skip
noncomputable def c6 : Code := match c5 with | .seq x _ => x | _ => .skip
noncomputable def c7 : Code := match c5 with | .seq _ x => x | _ => .skip
noncomputable def c8 : Code := match c7 with | .cond _ x _ => x | _ => .skip
noncomputable def c9 : Code := match c8 with | .seq x _ => x | _ => .skip
noncomputable def c10 : Code := match c8 with | .seq _ x => x | _ => .skip
noncomputable def c11 : Code := match c7 with | .cond _ _ x => x | _ => .skip
noncomputable def c12 : Code := match c4 with | .seq _ x => x | _ => .skip
noncomputable def c13 : Code := match c12 with | .seq x _ => x | _ => .skip
noncomputable def c14 : Code := match c13 with | .seq x _ => x | _ => .skip
noncomputable def c15 : Code := match c13 with | .seq _ x => x | _ => .skip
noncomputable def c16 : Code := match c15 with | .block _ x => x | _ => .skip
noncomputable def c17 : Code := match c16 with | .loop x => x | _ => .skip
noncomputable def c18 : Code := match c17 with | .seq x _ => x | _ => .skip
noncomputable def c19 : Code := match c17 with | .seq _ x => x | _ => .skip
noncomputable def c20 : Code := match c19 with | .seq x _ => x | _ => .skip
noncomputable def c21 : Code := match c20 with | .cond _ x _ => x | _ => .skip
noncomputable def c22 : Code := match c20 with | .cond _ _ x => x | _ => .skip
noncomputable def c23 : Code := match c19 with | .seq _ x => x | _ => .skip
noncomputable def c24 : Code := match c23 with | .seq x _ => x | _ => .skip
noncomputable def c25 : Code := match c24 with | .block _ x => x | _ => .skip
noncomputable def c26 : Code := match c25 with | .seq x _ => x | _ => .skip
noncomputable def c27 : Code := match c25 with | .seq _ x => x | _ => .skip
noncomputable def c28 : Code := match c27 with | .seq x _ => x | _ => .skip
noncomputable def c29 : Code := match c27 with | .seq _ x => x | _ => .skip
noncomputable def c30 : Code := match c29 with | .seq x _ => x | _ => .skip
noncomputable def c31 : Code := match c29 with | .seq _ x => x | _ => .skip
noncomputable def c32 : Code := match c31 with | .cond _ x _ => x | _ => .skip
noncomputable def c33 : Code := match c32 with | .seq x _ => x | _ => .skip
noncomputable def c34 : Code := match c32 with | .seq _ x => x | _ => .skip
noncomputable def c35 : Code := match c31 with | .cond _ _ x => x | _ => .skip
noncomputable def c36 : Code := match c23 with | .seq _ x => x | _ => .skip
noncomputable def c37 : Code := match c12 with | .seq _ x => x | _ => .skip
noncomputable def c38 : Code := match c37 with | .seq x _ => x | _ => .skip
noncomputable def c39 : Code := match c37 with | .seq _ x => x | _ => .skip
theorem e0 : c0 = .seq c1 c2 := by kernel_rfl
noncomputable def r1 : Array Oper := match c1 with | .region _ x _ => x | _ => #[]
theorem e1 : c1 = .region 0 r1 false := by kernel_rfl
theorem e2 : c2 = .seq c3 c4 := by kernel_rfl
noncomputable def r3 : Array Oper := match c3 with | .region _ x _ => x | _ => #[]
theorem e3 : c3 = .region 1 r3 false := by kernel_rfl
theorem e4 : c4 = .seq c5 c12 := by kernel_rfl
theorem e5 : c5 = .seq c6 c7 := by kernel_rfl
noncomputable def r6 : Array Oper := match c6 with | .region _ x _ => x | _ => #[]
theorem e6 : c6 = .region 2 r6 false := by kernel_rfl
theorem e7 : c7 = .cond (.tmp 11) c8 c11 := by kernel_rfl
theorem e8 : c8 = .seq c9 c10 := by kernel_rfl
noncomputable def r9 : Array Oper := match c9 with | .region _ x _ => x | _ => #[]
theorem e9 : c9 = .region 3 r9 false := by kernel_rfl
theorem e10 : c10 = .ret := by kernel_rfl
theorem e11 : c11 = .skip := by kernel_rfl
theorem e12 : c12 = .seq c13 c37 := by kernel_rfl
theorem e13 : c13 = .seq c14 c15 := by kernel_rfl
noncomputable def r14 : Array Oper := match c14 with | .region _ x _ => x | _ => #[]
theorem e14 : c14 = .region 4 r14 false := by kernel_rfl
theorem e15 : c15 = .block 0 c16 := by kernel_rfl
theorem e16 : c16 = .loop c17 := by kernel_rfl
theorem e17 : c17 = .seq c18 c19 := by kernel_rfl
noncomputable def r18 : Array Oper := match c18 with | .region _ x _ => x | _ => #[]
theorem e18 : c18 = .region 5 r18 false := by kernel_rfl
theorem e19 : c19 = .seq c20 c23 := by kernel_rfl
theorem e20 : c20 = .cond (.tmp 15) c21 c22 := by kernel_rfl
theorem e21 : c21 = .skip := by kernel_rfl
theorem e22 : c22 = .exit 0 := by kernel_rfl
theorem e23 : c23 = .seq c24 c36 := by kernel_rfl
theorem e24 : c24 = .block 1 c25 := by kernel_rfl
theorem e25 : c25 = .seq c26 c27 := by kernel_rfl
noncomputable def r26 : Array Oper := match c26 with | .region _ x _ => x | _ => #[]
theorem e26 : c26 = .region 6 r26 false := by kernel_rfl
theorem e27 : c27 = .seq c28 c29 := by kernel_rfl
noncomputable def r28 : Array Oper := match c28 with | .region _ x _ => x | _ => #[]
theorem e28 : c28 = .region 7 r28 false := by kernel_rfl
theorem e29 : c29 = .seq c30 c31 := by kernel_rfl
noncomputable def r30 : Array Oper := match c30 with | .region _ x _ => x | _ => #[]
theorem e30 : c30 = .region 8 r30 false := by kernel_rfl
theorem e31 : c31 = .cond (.tmp 27) c32 c35 := by kernel_rfl
theorem e32 : c32 = .seq c33 c34 := by kernel_rfl
noncomputable def r33 : Array Oper := match c33 with | .region _ x _ => x | _ => #[]
theorem e33 : c33 = .region 9 r33 false := by kernel_rfl
noncomputable def r34 : Array Oper := match c34 with | .region _ x _ => x | _ => #[]
theorem e34 : c34 = .region 10 r34 false := by kernel_rfl
theorem e35 : c35 = .skip := by kernel_rfl
noncomputable def r36 : Array Oper := match c36 with | .region _ x _ => x | _ => #[]
theorem e36 : c36 = .region 11 r36 false := by kernel_rfl
theorem e37 : c37 = .seq c38 c39 := by kernel_rfl
noncomputable def r38 : Array Oper := match c38 with | .region _ x _ => x | _ => #[]
theorem e38 : c38 = .region 12 r38 false := by kernel_rfl
theorem e39 : c39 = .ret := by kernel_rfl
theorem body : Try.f16.body = some c0 := by kernel_rfl
section
variable {base : Nat} {W0 : World} {β0 : Bt}
def J1 (k : Nat) (rec0 : (Option HA) → Int → Sl → Int → Int → HS → Option ((Int) × HS)) (y0 : (Option HA)) (y5 : Int) (y12 : Sl) (y13 : Int) (y14 : Int) (S : HS) : Option ((Int) × HS) :=
  rec0 y0 y5 y12 y13 (w64 (y14 + 1)) S
theorem J1_snd {k : Nat} {rec0 : (Option HA) → Int → Sl → Int → Int → HS → Option ((Int) × HS)} (hrec0 : ∀ ⦃y0 : (Option HA)⦄ ⦃y5 : Int⦄ ⦃y12 : Sl⦄ ⦃y13 : Int⦄ ⦃y14 : Int⦄ ⦃S : HS⦄ ⦃p : (Int) × HS⦄ ⦃g1 g2 g3 g4 g6 g7 g8 g9 g10 g11 g15 g16 g17 g18 g19 g20 g21 g22 g23 g24 g25 g26 g27 g28 g29 g30 g31 g32 g33 g34 g35 g36 g37 g38 g39 g40 g41 g42 : HV⦄, rec0 y0 y5 y12 y13 y14 S = some p → HRun Try.prog base W0 β0 16 none [.inLoop c17, .inBlock 0, .code c37] ⟨[(.ptr y0), g1, g2, g3, g4, (.int .i64 y5), g6, g7, g8, g9, g10, g11, (Sl.hv y12), (.int .i64 y13), (.int .i64 y14), g15, g16, g17, g18, g19, g20, g21, g22, g23, g24, g25, g26, g27, g28, g29, g30, g31, g32, g33, g34, g35, g36, g37, g38, g39, g40, g41, g42], []⟩ S (fun v S1 => v = (.int .i64 p.1) ∧ S1 = p.2)) {y0 : (Option HA)} {y5 : Int} {y12 : Sl} {y13 : Int} {y14 : Int} {S : HS} {p : (Int) × HS} {g1 g2 g3 g4 g6 g7 g8 g9 g10 g11 g15 g16 g17 g18 g19 g20 g21 g22 g23 g24 g25 g26 g27 g28 g29 g30 g31 g32 g33 g34 g35 g36 g37 g38 g39 g40 g41 g42 : HV} (h : J1 k rec0 y0 y5 y12 y13 y14 S = some p) : HRun Try.prog base W0 β0 16 none [.code c36, .inLoop c17, .inBlock 0, .code c37] ⟨[(.ptr y0), g1, g2, g3, g4, (.int .i64 y5), g6, g7, g8, g9, g10, g11, (Sl.hv y12), (.int .i64 y13), (.int .i64 y14), g15, g16, g17, g18, g19, g20, g21, g22, g23, g24, g25, g26, g27, g28, g29, g30, g31, g32, g33, g34, g35, g36, g37, g38, g39, g40, g41, g42], []⟩ S (fun v S1 => v = (.int .i64 p.1) ∧ S1 = p.2) := by
  unfold J1 at h
  refine q_region e36 rfl ?_
  refine q_op (dst := some 41) rfl (fun _ ho => ok_ibin ho (.tmp rfl) (.int _ _) rfl) ?_
  refine q_op (dst := some 14) rfl (fun _ ho => ok_move ho (.tmp rfl)) ?_
  refine hr_region_end ?_
  try dsimp only [HAct.put, List.set_cons_zero, List.set_cons_succ]
  try dsimp only [HAct.put, List.set_cons_zero, List.set_cons_succ]
  exact hrec0 h
def L0 (k : Nat) : Nat → (Option HA) → Int → Sl → Int → Int → HS → Option ((Int) × HS)
  | 0, _, _, _, _, _, _ => none
  | n + 1, y0, y5, y12, y13, y14, S =>
    (if y14 < y13 then
    (Option.bind (HS.idx S y12 y14 1) fun p3 =>
    (Option.bind (HS.ldI S .i64 p3) fun p4 =>
    (Option.bind (y0) fun p5 =>
    (Option.bind (HS.ldSl S (HA.fld p5 0)) fun p6 =>
    (Option.bind (slices_BinarySearch_int_int.f k p6 p4 S) fun p7 =>
    (if p7.1.2 = true then
    (Option.bind (y0) fun p9 =>
    (Option.bind (HS.ldSl p7.2 (HA.fld p9 0)) fun p10 =>
    (Option.bind (slices_Delete_int_int_w.f p10 p7.1.1 (w64 (p7.1.1 + 1)) p7.2) fun p11 =>
    (Option.bind (y0) fun p12 =>
    (Option.bind (HS.sets p11.2 (HA.fld p12 0) [(Sl.hv p11.1)]) fun p13 =>
    J1 k (L0 k n) y0 (w64 (y5 + 1)) y12 y13 y14 p13))))) else
    J1 k (L0 k n) y0 y5 y12 y13 y14 p7.2)))))) else
    some (y5, S))
theorem L0_snd {k : Nat}  : ∀ {n : Nat} ⦃y0 : (Option HA)⦄ ⦃y5 : Int⦄ ⦃y12 : Sl⦄ ⦃y13 : Int⦄ ⦃y14 : Int⦄ ⦃S : HS⦄ ⦃p : (Int) × HS⦄ ⦃g1 g2 g3 g4 g6 g7 g8 g9 g10 g11 g15 g16 g17 g18 g19 g20 g21 g22 g23 g24 g25 g26 g27 g28 g29 g30 g31 g32 g33 g34 g35 g36 g37 g38 g39 g40 g41 g42 : HV⦄, L0 k n y0 y5 y12 y13 y14 S = some p → HRun Try.prog base W0 β0 16 none [.inLoop c17, .inBlock 0, .code c37] ⟨[(.ptr y0), g1, g2, g3, g4, (.int .i64 y5), g6, g7, g8, g9, g10, g11, (Sl.hv y12), (.int .i64 y13), (.int .i64 y14), g15, g16, g17, g18, g19, g20, g21, g22, g23, g24, g25, g26, g27, g28, g29, g30, g31, g32, g33, g34, g35, g36, g37, g38, g39, g40, g41, g42], []⟩ S (fun v S1 => v = (.int .i64 p.1) ∧ S1 = p.2) := by
  intro n
  induction n with
  | zero => intro _ _ _ _ _ _ _ _ _ _ _ _ _ _ _ _ _ _ _ _ _ _ _ _ _ _ _ _ _ _ _ _ _ _ _ _ _ _ _ _ _ _ _ _ _ h; cases h
  | succ n ih =>
    intro y0 y5 y12 y13 y14 S p g1 g2 g3 g4 g6 g7 g8 g9 g10 g11 g15 g16 g17 g18 g19 g20 g21 g22 g23 g24 g25 g26 g27 g28 g29 g30 g31 g32 g33 g34 g35 g36 g37 g38 g39 g40 g41 g42 h
    simp only [L0] at h
    refine hr_inLoop ?_
    refine q_seq e17 ?_
    refine q_region e18 rfl ?_
    refine q_op (dst := some 15) rfl (fun _ ho => ok_ibin ho (.tmp rfl) (.tmp rfl) rfl) ?_
    refine hr_region_end ?_
    try dsimp only [HAct.put, List.set_cons_zero, List.set_cons_succ]
    refine q_seq e19 ?_
    rcases ifc h with ⟨hc2, h⟩ | ⟨hc2, h⟩
    · refine q_cond_t e20 (.tmp rfl) (decide_eq_true hc2) ?_
      refine q_skipc e21 ?_
      refine q_seq e23 ?_
      refine q_block e24 ?_
      refine q_seq e25 ?_
      refine q_region e26 rfl ?_
      obtain ⟨p3, hp3, h⟩ := bindo h
      refine q_op (dst := some 16) rfl (fun _ ho => ok_indexAddr (s := y12) ho tu24 sz3 (.tmp rfl) (.tmp rfl) hp3) ?_
      obtain ⟨p4, hp4, h⟩ := bindo h
      refine q_op (dst := some 17) rfl (fun _ ho => ok_load_s ho sc3 (.tmp rfl) rfl (ldI_out hp4)) ?_
      refine q_op (dst := some 7) rfl (fun _ ho => ok_assign ho (.tmp rfl)) ?_
      refine hr_region_end ?_
      try dsimp only [HAct.put, List.set_cons_zero, List.set_cons_succ]
      refine q_seq e27 ?_
      refine q_region e28 rfl ?_
      refine q_op (dst := some 19) rfl (fun _ ho => ok_move ho (.tmp rfl)) ?_
      obtain ⟨p5, hp5, h⟩ := bindo h
      refine q_op (dst := some 20) rfl (fun _ ho => ok_nilCheck_p ho (.tmp rfl) hp5) ?_
      refine q_op (dst := some 21) rfl (fun _ ho => ok_fieldAddr_s ho fi50_0 (by decide) (.tmp rfl) rfl) ?_
      obtain ⟨p6, hp6, h⟩ := bindo h
      refine q_op (dst := some 22) rfl (fun _ ho => ok_load_s ho sc24 (.tmp rfl) rfl (ldSl_out hp6)) ?_
      try dsimp only [HAct.put, List.set_cons_zero, List.set_cons_succ]
      refine q_op (dst := some 23) rfl (fun _ ho => ok_move ho (.tmp rfl)) ?_
      obtain ⟨p7, hp7, h⟩ := bindo h
      refine q_call (dst := some 24) rfl (.func _) (.cons (.tmp rfl) (.cons (.tmp rfl) Evs.nil)) (HInv.static slices_BinarySearch_int_int.at_ slices_BinarySearch_int_int.body (slices_BinarySearch_int_int.snd  hp7)) ?_
      rintro _ _ ⟨rfl, rfl⟩
      refine q_op (dst := some 18) rfl (fun _ ho => ok_move ho (.tmp rfl)) ?_
      refine q_op (dst := some 25) rfl (fun _ ho => ok_extract ho (.tmp rfl) rfl) ?_
      try dsimp only [HAct.put, List.set_cons_zero, List.set_cons_succ]
      refine q_op (dst := some 26) rfl (fun _ ho => ok_extract ho (.tmp rfl) rfl) ?_
      refine q_op (dst := some 8) rfl (fun _ ho => ok_assign ho (.tmp rfl)) ?_
      refine q_op (dst := some 9) rfl (fun _ ho => ok_assign ho (.tmp rfl)) ?_
      refine hr_region_end ?_
      try dsimp only [HAct.put, List.set_cons_zero, List.set_cons_succ]
      refine q_seq e29 ?_
      refine q_region e30 rfl ?_
      refine q_op (dst := some 27) rfl (fun _ ho => ok_move ho (.tmp rfl)) ?_
      refine hr_region_end ?_
      try dsimp only [HAct.put, List.set_cons_zero, List.set_cons_succ]
      rcases ifc h with ⟨hc8, h⟩ | ⟨hc8, h⟩
      · refine q_cond_t e31 (.tmp rfl) hc8 ?_
        refine q_seq e32 ?_
        refine q_region e33 rfl ?_
        refine q_op (dst := some 28) rfl (fun _ ho => ok_move ho (.tmp rfl)) ?_
        refine q_op (dst := some 29) rfl (fun _ ho => ok_move ho (.tmp rfl)) ?_
        obtain ⟨p9, hp9, h⟩ := bindo h
        refine q_op (dst := some 30) rfl (fun _ ho => ok_nilCheck_p ho (.tmp rfl) hp9) ?_
        refine q_op (dst := some 31) rfl (fun _ ho => ok_fieldAddr_s ho fi50_0 (by decide) (.tmp rfl) rfl) ?_
        try dsimp only [HAct.put, List.set_cons_zero, List.set_cons_succ]
        obtain ⟨p10, hp10, h⟩ := bindo h
        refine q_op (dst := some 32) rfl (fun _ ho => ok_load_s ho sc24 (.tmp rfl) rfl (ldSl_out hp10)) ?_
        refine q_op (dst := some 33) rfl (fun _ ho => ok_move ho (.tmp rfl)) ?_
        refine q_op (dst := some 34) rfl (fun _ ho => ok_move ho (.tmp rfl)) ?_
        refine q_op (dst := some 35) rfl (fun _ ho => ok_ibin ho (.tmp rfl) (.int _ _) rfl) ?_
        try dsimp only [HAct.put, List.set_cons_zero, List.set_cons_succ]
        obtain ⟨p11, hp11, h⟩ := bindo h
        refine q_call (dst := some 36) rfl (.func _) (.cons (.tmp rfl) (.cons (.tmp rfl) (.cons (.tmp rfl) Evs.nil))) (HInv.static slices_Delete_int_int_w.at_ slices_Delete_int_int_w.body (slices_Delete_int_int_w.snd  hp11)) ?_
        rintro _ _ ⟨rfl, rfl⟩
        obtain ⟨p12, hp12, h⟩ := bindo h
        refine q_op (dst := some 37) rfl (fun _ ho => ok_nilCheck_p ho (.tmp rfl) hp12) ?_
        refine q_op (dst := some 38) rfl (fun _ ho => ok_fieldAddr_s ho fi50_0 (by decide) (.tmp rfl) rfl) ?_
        obtain ⟨p13, hp13, h⟩ := bindo h
        refine q_op (dst := none) rfl (fun _ ho => ok_store_s (v := (Sl.hv p11.1)) ho sz24 (.tmp rfl) rfl (.tmp rfl) rfl hp13) ?_
        refine hr_region_end ?_
        try dsimp only [HAct.put, List.set_cons_zero, List.set_cons_succ]
        refine q_region e34 rfl ?_
        refine q_op (dst := some 39) rfl (fun _ ho => ok_move ho (.tmp rfl)) ?_
        refine q_op (dst := some 40) rfl (fun _ ho => ok_ibin ho (.tmp rfl) (.int _ _) rfl) ?_
        refine q_op (dst := some 5) rfl (fun _ ho => ok_assign ho (.tmp rfl)) ?_
        refine hr_region_end ?_
        try dsimp only [HAct.put, List.set_cons_zero, List.set_cons_succ]
        refine hr_inBlock ?_
        try dsimp only [HAct.put, List.set_cons_zero, List.set_cons_succ]
        exact J1_snd ih h
      · refine q_cond_f e31 (.tmp rfl) (bfalse hc8) ?_
        refine q_skipc e35 ?_
        refine hr_inBlock ?_
        try dsimp only [HAct.put, List.set_cons_zero, List.set_cons_succ]
        exact J1_snd ih h
    · refine q_cond_f e20 (.tmp rfl) (decide_eq_false hc2) ?_
      refine q_exit e22 rfl ?_
      refine q_seq e37 ?_
      refine q_region e38 rfl ?_
      refine q_op (dst := some 42) rfl (fun _ ho => ok_move ho (.tmp rfl)) ?_
      refine q_op (dst := some 4) rfl (fun _ ho => ok_assign ho (.tmp rfl)) ?_
      refine hr_region_end ?_
      try dsimp only [HAct.put, List.set_cons_zero, List.set_cons_succ]
      cases h
      exact q_ret e39 at_.at_ rfl (res1 rfl rfl) ⟨rfl, rfl⟩
def f (k : Nat) (x0 : (Option HA)) (x1 : Sl) (S : HS) : Option ((Int) × HS) :=
  (if (Option.isNone x0) = true then
  some (0, S) else
  L0 k k x0 0 x1 (Sl.len x1 : Int) 0 S)
theorem snd {k : Nat} {x0 : (Option HA)} {x1 : Sl} {S : HS}  {p : (Int) × HS} (h : f k x0 x1 S = some p) : HCall Try.prog base W0 β0 16 [(.ptr x0), (Sl.hv x1)] S (fun v S1 => v = (.int .i64 p.1) ∧ S1 = p.2) := by
  unfold f at h
  refine HCall.of_run at_.at_ body ?_
  show HRun Try.prog base W0 β0 16 none [.code c0] ⟨[(.ptr x0), (Sl.hv x1), .tup [], .tup [], .tup [], .tup [], .tup [], .tup [], .tup [], .tup [], .tup [], .tup [], .tup [], .tup [], .tup [], .tup [], .tup [], .tup [], .tup [], .tup [], .tup [], .tup [], .tup [], .tup [], .tup [], .tup [], .tup [], .tup [], .tup [], .tup [], .tup [], .tup [], .tup [], .tup [], .tup [], .tup [], .tup [], .tup [], .tup [], .tup [], .tup [], .tup [], .tup []], []⟩ S _
  refine q_seq e0 ?_
  refine q_region e1 rfl ?_
  refine q_op (dst := some 4) rfl (fun _ ho => ok_assign ho (.int _ _)) ?_
  refine hr_region_end ?_
  try dsimp only [HAct.put, List.set_cons_zero, List.set_cons_succ]
  refine q_seq e2 ?_
  refine q_region e3 rfl ?_
  refine q_op (dst := some 5) rfl (fun _ ho => ok_assign ho (.int _ _)) ?_
  refine hr_region_end ?_
  try dsimp only [HAct.put, List.set_cons_zero, List.set_cons_succ]
  refine q_seq e4 ?_
  refine q_seq e5 ?_
  refine q_region e6 rfl ?_
  refine q_op (dst := some 10) rfl (fun _ ho => ok_move ho (.tmp rfl)) ?_
  refine q_op (dst := some 11) rfl (fun _ ho => ok_nil_ptr ho tu26 (.tmp rfl) (.inl ⟨rfl, rfl⟩)) ?_
  refine hr_region_end ?_
  try dsimp only [HAct.put, List.set_cons_zero, List.set_cons_succ]
  rcases ifc h with ⟨hc1, h⟩ | ⟨hc1, h⟩
  · refine q_cond_t e7 (.tmp rfl) hc1 ?_
    refine q_seq e8 ?_
    refine q_region e9 rfl ?_
    refine q_op (dst := some 4) rfl (fun _ ho => ok_assign ho (.int _ _)) ?_
    refine hr_region_end ?_
    try dsimp only [HAct.put, List.set_cons_zero, List.set_cons_succ]
    cases h
    exact q_ret e10 at_.at_ rfl (res1 rfl rfl) ⟨rfl, rfl⟩
  · refine q_cond_f e7 (.tmp rfl) (bfalse hc1) ?_
    refine q_skipc e11 ?_
    refine q_seq e12 ?_
    refine q_seq e13 ?_
    refine q_region e14 rfl ?_
    refine q_op (dst := some 12) rfl (fun _ ho => ok_move ho (.tmp rfl)) ?_
    refine q_op (dst := some 13) rfl (fun _ ho => ok_len_sl (q := Sl.a x1) (n := Sl.len x1) (z := Sl.cap x1) ho rfl tu24 (.tmp rfl)) ?_
    refine q_op (dst := some 14) rfl (fun _ ho => ok_move ho (.int _ _)) ?_
    refine hr_region_end ?_
    try dsimp only [HAct.put, List.set_cons_zero, List.set_cons_succ]
    refine q_block e15 ?_
    refine q_loop e16 ?_
    try dsimp only [HAct.put, List.set_cons_zero, List.set_cons_succ]
    exact L0_snd  h
end
end set_Set_int_Remove
namespace set_Set_int_Len
abbrev id : Nat := 21
theorem at_ : FnAt Try.prog 21 Try.f21 := ⟨Try.func21, by kernel_rfl⟩
noncomputable def c0 : Code := (Try.f21.body).getD .skip
noncomputable def c1 : Code := match c0 with | .seq x _ => x | _ => .skip
noncomputable def c2 : Code := match c0 with | .seq _ x => x | _ => .skip
noncomputable def c3 : Code := match c2 with | .seq x _ => x | _ => .skip
noncomputable def c4 : Code := match c3 with | .seq x _ => x | _ => .skip
noncomputable def c5 : Code := match c3 with | .seq _ x => x | _ => .skip
noncomputable def c6 : Code := match c5 with | .cond _ x _ => x | _ => .skip
noncomputable def c7 : Code := match c6 with | .seq x _ => x | _ => .skip
noncomputable def c8 : Code := match c6 with | .seq _ x => x | _ => .skip
noncomputable def c9 : Code := match c5 with | .cond _ _ x => x | _ => .skip
noncomputable def c10 : Code := match c2 with | .seq _ x => x | _ => .skip
noncomputable def c11 : Code := match c10 with | .seq x _ => x | _ => .skip
noncomputable def c12 : Code := match c10 with | .seq _ x => x | _ => .skip
theorem e0 : c0 = .seq c1 c2 := by kernel_rfl
noncomputable def r1 : Array Oper := match c1 with | .region _ x _ => x | _ => #[]
theorem e1 : c1 = .region 0 r1 false := by kernel_rfl
theorem e2 : c2 = .seq c3 c10 := by kernel_rfl
theorem e3 : c3 = .seq c4 c5 := by kernel_rfl
noncomputable def r4 : Array Oper := match c4 with | .region _ x _ => x | _ => #[]
theorem e4 : c4 = .region 1 r4 false := by kernel_rfl
theorem e5 : c5 = .cond (.tmp 4) c6 c9 := by kernel_rfl
theorem e6 : c6 = .seq c7 c8 := by kernel_rfl
noncomputable def r7 : Array Oper := match c7 with | .region _ x _ => x | _ => #[]
theorem e7 : c7 = .region 2 r7 false := by kernel_rfl
theorem e8 : c8 = .ret := by kernel_rfl
theorem e9 : c9 = .skip := by kernel_rfl
theorem e10 : c10 = .seq c11 c12 := by kernel_rfl
noncomputable def r11 : Array Oper := match c11 with | .region _ x _ => x | _ => #[]
theorem e11 : c11 = .region 3 r11 false := by kernel_rfl
theorem e12 : c12 = .ret := by kernel_rfl
theorem body : Try.f21.body = some c0 := by kernel_rfl
section
variable {base : Nat} {W0 : World} {β0 : Bt}
def f (x0 : (Option HA)) (S : HS) : Option ((Int) × HS) :=
  (if (Option.isNone x0) = true then
  some (0, S) else
  (Option.bind (x0) fun p2 =>
  (Option.bind (HS.ldSl S (HA.fld p2 0)) fun p3 =>
  some ((Sl.len p3 : Int), S))))
theorem snd {x0 : (Option HA)} {S : HS}  {p : (Int) × HS} (h : f x0 S = some p) : HCall Try.prog base W0 β0 21 [(.ptr x0)] S (fun v S1 => v = (.int .i64 p.1) ∧ S1 = p.2) := by
  unfold f at h
  refine HCall.of_run at_.at_ body ?_
  show HRun Try.prog base W0 β0 21 none [.code c0] ⟨[(.ptr x0), .tup [], .tup [], .tup [], .tup [], .tup [], .tup [], .tup [], .tup [], .tup []], []⟩ S _
  refine q_seq e0 ?_
  refine q_region e1 rfl ?_
  refine q_op (dst := some 2) rfl (fun _ ho => ok_assign ho (.int _ _)) ?_
  refine hr_region_end ?_
  try dsimp only [HAct.put, List.set_cons_zero, List.set_cons_succ]
  refine q_seq e2 ?_
  refine q_seq e3 ?_
  refine q_region e4 rfl ?_
  refine q_op (dst := some 3) rfl (fun _ ho => ok_move ho (.tmp rfl)) ?_
  refine q_op (dst := some 4) rfl (fun _ ho => ok_nil_ptr ho tu26 (.tmp rfl) (.inl ⟨rfl, rfl⟩)) ?_
  refine hr_region_end ?_
  try dsimp only [HAct.put, List.set_cons_zero, List.set_cons_succ]
  rcases ifc h with ⟨hc1, h⟩ | ⟨hc1, h⟩
  · refine q_cond_t e5 (.tmp rfl) hc1 ?_
    refine q_seq e6 ?_
    refine q_region e7 rfl ?_
    refine q_op (dst := some 2) rfl (fun _ ho => ok_assign ho (.int _ _)) ?_
    refine hr_region_end ?_
    try dsimp only [HAct.put, List.set_cons_zero, List.set_cons_succ]
    cases h
    exact q_ret e8 at_.at_ rfl (res1 rfl rfl) ⟨rfl, rfl⟩
  · refine q_cond_f e5 (.tmp rfl) (bfalse hc1) ?_
    refine q_skipc e9 ?_
    refine q_seq e10 ?_
    refine q_region e11 rfl ?_
    refine q_op (dst := some 5) rfl (fun _ ho => ok_move ho (.tmp rfl)) ?_
    obtain ⟨p2, hp2, h⟩ := bindo h
    refine q_op (dst := some 6) rfl (fun _ ho => ok_nilCheck_p ho (.tmp rfl) hp2) ?_
    refine q_op (dst := some 7) rfl (fun _ ho => ok_fieldAddr_s ho fi50_0 (by decide) (.tmp rfl) rfl) ?_
    obtain ⟨p3, hp3, h⟩ := bindo h
    refine q_op (dst := some 8) rfl (fun _ ho => ok_load_s ho sc24 (.tmp rfl) rfl (ldSl_out hp3)) ?_
    try dsimp only [HAct.put, List.set_cons_zero, List.set_cons_succ]
    refine q_op (dst := some 9) rfl (fun _ ho => ok_len_sl (q := Sl.a p3) (n := Sl.len p3) (z := Sl.cap p3) ho rfl tu24 (.tmp rfl)) ?_
    refine q_op (dst := some 2) rfl (fun _ ho => ok_assign ho (.tmp rfl)) ?_
    refine hr_region_end ?_
    try dsimp only [HAct.put, List.set_cons_zero, List.set_cons_succ]
    cases h
    exact q_ret e12 at_.at_ rfl (res1 rfl rfl) ⟨rfl, rfl⟩
end
end set_Set_int_Len
namespace rollcalllaw10_SetPlays
abbrev id : Nat := 4
theorem at_ : FnAt Try.prog 4 Try.f4 := ⟨Try.func4, by kernel_rfl⟩
noncomputable def c0 : Code := (Try.f4.body).getD .skip
noncomputable def c1 : Code := match c0 with | .seq x _ => x | _ => .skip
noncomputable def c2 : Code := match c0 with | .seq _ x => x | _ => .skip
noncomputable def c3 : Code := match c2 with | .seq x _ => x | _ => .skip
noncomputable def c4 : Code := match c3 with | .seq x _ => x | _ => .skip
noncomputable def c5 : Code := match c3 with | .seq _ x => x | _ => .skip
noncomputable def c6 : Code := match c5 with | .cond _ x _ => x | _ => .skip
noncomputable def c7 : Code := match c6 with | .seq x _ => x | _ => .skip
noncomputable def c8 : Code := match c6 with | .seq _ x => x | _ => .skip
noncomputable def c9 : Code := match c5 with | .cond _ _ x => x | _ => .skip
noncomputable def c10 : Code := match c2 with | .seq _ x => x | _ => .skip
noncomputable def c11 : Code := match c10 with | .seq x _ => x | _ => .skip
noncomputable def c12 : Code := match c11 with | .seq x _ => x | _ => .skip
noncomputable def c13 : Code := match c11 with | .seq _ x => x | _ => .skip
noncomputable def c14 : Code := match c13 with | .cond _ x _ => x | _ => .skip
noncomputable def c15 : Code := match c14 with | .seq x _ => x | _ => .skip
noncomputable def c16 : Code := match c14 with | .seq _ x => x | _ => .skip
noncomputable def c17 : Code := match c13 with | .cond _ _ x => x | _ => .skip
noncomputable def c18 : Code := match c10 with | .seq _ x => x | _ => .skip
noncomputable def c19 : Code := match c18 with | .seq x _ => x | _ => .skip
noncomputable def c20 : Code := match c18 with | .seq _ x => x | _ => .skip
noncomputable def c21 : Code := match c20 with | .seq x _ => x | _ => .skip
noncomputable def c22 : Code := match c20 with | .seq _ x => x | _ => .skip
noncomputable def c23 : Code := match c22 with | .seq x _ => x | _ => .skip
noncomputable def c24 : Code := match c23 with | .seq x _ => x | _ => .skip
noncomputable def c25 : Code := match c23 with | .seq _ x => x | _ => .skip
noncomputable def c26 : Code := match c25 with | .block _ x => x | _ => .skip
noncomputable def c27 : Code := match c26 with | .loop x => x | _ => .skip
noncomputable def c28 : Code := match c27 with | .seq x _ => x | _ => .skip
noncomputable def c29 : Code := match c28 with | .seq x _ => x | _ => .skip
noncomputable def c30 : Code := match c28 with | .seq _ x => x | _ => .skip
noncomputable def c31 : Code := match c30 with | .cond _ x _ => x | _ => .skip
noncomputable def c32 : Code := match c30 with | .cond _ _ x => x | _ => .skip
noncomputable def c33 : Code := match c27 with | .seq _ x => x | _ => .skip
noncomputable def c34 : Code := match c33 with | .seq x _ => x | _ => .skip
noncomputable def c35 : Code := match c34 with | .block _ x => x | _ => .skip
noncomputable def c36 : Code := match c35 with | .seq x _ => x | _ => .skip
noncomputable def c37 : Code := match c36 with | .seq x _ => x | _ => .skip
noncomputable def c38 : Code := match c36 with | .seq _ x => x | _ => .skip
noncomputable def c39 : Code := match c38 with | .cond _ x _ => x | _ => .skip
noncomputable def c40 : Code := match c39 with | .seq x _ => x | _ => .skip
noncomputable def c41 : Code := match c39 with | .seq _ x => x | _ => .skip
noncomputable def c42 : Code := match c38 with | .cond _ _ x => x | _ => .skip
noncomputable def c43 : Code := match c35 with | .seq _ x => x | _ => .skip
noncomputable def c44 : Code := match c43 with | .seq x _ => x | _ => .skip
noncomputable def c45 : Code := match c43 with | .seq _ x => x | _ => .skip
noncomputable def c46 : Code := match c45 with | .seq x _ => x | _ => .skip
noncomputable def c47 : Code := match c46 with | .seq x _ => x | _ => .skip
noncomputable def c48 : Code := match c46 with | .seq _ x => x | _ => .skip
noncomputable def c49 : Code := match c48 with | .cond _ x _ => x | _ => .skip
noncomputable def c50 : Code := match c49 with | .seq x _ => x | _ => .skip
noncomputable def c51 : Code := match c50 with | .seq x _ => x | _ => .skip
noncomputable def c52 : Code := match c50 with | .seq _ x => x | _ => .skip
noncomputable def c53 : Code := match c52 with | .block _ x => x | _ => .skip
noncomputable def c54 : Code := match c53 with | .loop x => x | _ => .skip
noncomputable def c55 : Code := match c54 with | .seq x _ => x | _ => .skip
noncomputable def c56 : Code := match c55 with | .seq x _ => x | _ => .skip
noncomputable def c57 : Code := match c55 with | .seq _ x => x | _ => .skip
noncomputable def c58 : Code := match c57 with | .cond _ x _ => x | _ => .skip
noncomputable def c59 : Code := match c57 with | .cond _ _ x => x | _ => .skip
noncomputable def c60 : Code := match c54 with | .seq _ x => x | _ => .skip
noncomputable def c61 : Code := match c60 with | .seq x _ => x | _ => .skip
noncomputable def c62 : Code := match c61 with | .block _ x => x | _ => .skip
noncomputable def c63 : Code := match c60 with | .seq _ x => x | _ => .skip
noncomputable def c64 : Code := match c49 with | .seq _ x => x | _ => .skip
noncomputable def c65 : Code := match c64 with | .seq x _ => x | _ => .skip
noncomputable def c66 : Code := match c64 with | .seq _ x => x | _ => .skip
noncomputable def c67 : Code := match c66 with | .cond _ x _ => x | _ => .skip
noncomputable def c68 : Code := match c67 with | .seq x _ => x | _ => .skip
noncomputable def c69 : Code := match c67 with | .seq _ x => x | _ => .skip
noncomputable def c70 : Code := match c66 with | .cond _ _ x => x | _ => .skip
noncomputable def c71 : Code := match c48 with | .cond _ _ x => x | _ => .skip
noncomputable def c72 : Code := match c71 with | .seq x _ => x | _ => .skip
noncomputable def c73 : Code := match c72 with | .seq x _ => x | _ => .skip
noncomputable def c74 : Code := match c72 with | .seq _ x => x | _ => .skip
noncomputable def c75 : Code := match c74 with | .block _ x => x | _ => .skip
noncomputable def c76 : Code := match c75 with | .loop x => x | _ => .skip
noncomputable def c77 : Code := match c76 with | .seq x _ => x | _ => .skip
noncomputable def c78 : Code := match c77 with | .seq x _ => x | _ => .skip
noncomputable def c79 : Code := match c77 with | .seq _ x => x | _ => .skip
noncomputable def c80 : Code := match c79 with | .cond _ x _ => x | _ => .skip
noncomputable def c81 : Code := match c79 with | .cond _ _ x => x | _ => .skip
noncomputable def c82 : Code := match c76 with | .seq _ x => x | _ => .skip
noncomputable def c83 : Code := match c82 with | .seq x _ => x | _ => .skip
noncomputable def c84 : Code := match c83 with | .block _ x => x | _ => .skip
noncomputable def c85 : Code := match c82 with | .seq _ x => x | _ => .skip
noncomputable def c86 : Code := match c71 with | .seq _ x => x | _ => .skip
noncomputable def c87 : Code := match c86 with | .seq x _ => x | _ => .skip
noncomputable def c88 : Code := match c86 with | .seq _ x => x | _ => .skip
noncomputable def c89 : Code := match c88 with | .cond _ x _ => x | _ => .skip
noncomputable def c90 : Code := match c89 with | .seq x _ => x | _ => .skip
noncomputable def c91 : Code := match c89 with | .seq _ x => x | _ => .skip
noncomputable def c92 : Code := match c88 with | .cond _ _ x => x | _ => .skip
noncomputable def c93 : Code := match c45 with | .seq _ x => x | _ => .skip
noncomputable def c94 : Code := match c93 with | .seq x _ => x | _ => .skip
noncomputable def c95 : Code := match c93 with | .seq _ x => x | _ => .skip
noncomputable def c96 : Code := match c95 with | .seq x _ => x | _ => .skip
noncomputable def c97 : Code := match c95 with | .seq _ x => x | _ => .skip
noncomputable def c98 : Code := match c97 with | .cond _ x _ => x | _ => .skip
noncomputable def c99 : Code := match c98 with | .seq x _ => x | _ => .skip
noncomputable def c100 : Code := match c98 with | .seq _ x => x | _ => .skip
noncomputable def c101 : Code := match c97 with | .cond _ _ x => x | _ => .skip
noncomputable def c102 : Code := match c33 with | .seq _ x => x | _ => .skip
noncomputable def c103 : Code := match c22 with | .seq _ x => x | _ => .skip
noncomputable def c104 : Code := match c103 with | .seq x _ => x | _ => .skip
noncomputable def c105 : Code := match c103 with | .seq _ x => x | _ => .skip
theorem e0 : c0 = .seq c1 c2 := by kernel_rfl
noncomputable def r1 : Array Oper := match c1 with | .region _ x _ => x | _ => #[]
theorem e1 : c1 = .region 0 r1 false := by kernel_rfl
theorem e2 : c2 = .seq c3 c10 := by kernel_rfl
theorem e3 : c3 = .seq c4 c5 := by kernel_rfl
noncomputable def r4 : Array Oper := match c4 with | .region _ x _ => x | _ => #[]
theorem e4 : c4 = .region 1 r4 false := by kernel_rfl
theorem e5 : c5 = .cond (.tmp 14) c6 c9 := by kernel_rfl
theorem e6 : c6 = .seq c7 c8 := by kernel_rfl
noncomputable def r7 : Array Oper := match c7 with | .region _ x _ => x | _ => #[]
theorem e7 : c7 = .region 2 r7 false := by kernel_rfl
theorem e8 : c8 = .ret := by kernel_rfl
theorem e9 : c9 = .skip := by kernel_rfl
theorem e10 : c10 = .seq c11 c18 := by kernel_rfl
theorem e11 : c11 = .seq c12 c13 := by kernel_rfl
noncomputable def r12 : Array Oper := match c12 with | .region _ x _ => x | _ => #[]
theorem e12 : c12 = .region 3 r12 false := by kernel_rfl
theorem e13 : c13 = .cond (.tmp 17) c14 c17 := by kernel_rfl
theorem e14 : c14 = .seq c15 c16 := by kernel_rfl
noncomputable def r15 : Array Oper := match c15 with | .region _ x _ => x | _ => #[]
theorem e15 : c15 = .region 4 r15 false := by kernel_rfl
theorem e16 : c16 = .ret := by kernel_rfl
theorem e17 : c17 = .skip := by kernel_rfl
theorem e18 : c18 = .seq c19 c20 := by kernel_rfl
noncomputable def r19 : Array Oper := match c19 with | .region _ x _ => x | _ => #[]
theorem e19 : c19 = .region 5 r19 false := by kernel_rfl
theorem e20 : c20 = .seq c21 c22 := by kernel_rfl
noncomputable def r21 : Array Oper := match c21 with | .region _ x _ => x | _ => #[]
theorem e21 : c21 = .region 6 r21 false := by kernel_rfl
theorem e22 : c22 = .seq c23 c103 := by kernel_rfl
theorem e23 : c23 = .seq c24 c25 := by kernel_rfl
noncomputable def r24 : Array Oper := match c24 with | .region _ x _ => x | _ => #[]
theorem e24 : c24 = .region 7 r24 false := by kernel_rfl
theorem e25 : c25 = .block 0 c26 := by kernel_rfl
theorem e26 : c26 = .loop c27 := by kernel_rfl
theorem e27 : c27 = .seq c28 c33 := by kernel_rfl
theorem e28 : c28 = .seq c29 c30 := by kernel_rfl
noncomputable def r29 : Array Oper := match c29 with | .region _ x _ => x | _ => #[]
theorem e29 : c29 = .region 8 r29 false := by kernel_rfl
theorem e30 : c30 = .cond (.tmp 22) c31 c32 := by kernel_rfl
theorem e31 : c31 = .skip := by kernel_rfl
theorem e32 : c32 = .exit 0 := by kernel_rfl
theorem e33 : c33 = .seq c34 c102 := by kernel_rfl
theorem e34 : c34 = .block 1 c35 := by kernel_rfl
theorem e35 : c35 = .seq c36 c43 := by kernel_rfl
theorem e36 : c36 = .seq c37 c38 := by kernel_rfl
noncomputable def r37 : Array Oper := match c37 with | .region _ x _ => x | _ => #[]
theorem e37 : c37 = .region 10 r37 false := by kernel_rfl
theorem e38 : c38 = .cond (.tmp 31) c39 c42 := by kernel_rfl
theorem e39 : c39 = .seq c40 c41 := by kernel_rfl
noncomputable def r40 : Array Oper := match c40 with | .region _ x _ => x | _ => #[]
theorem e40 : c40 = .region 11 r40 false := by kernel_rfl
theorem e41 : c41 = .ret := by kernel_rfl
theorem e42 : c42 = .skip := by kernel_rfl
theorem e43 : c43 = .seq c44 c45 := by kernel_rfl
noncomputable def r44 : Array Oper := match c44 with | .region _ x _ => x | _ => #[]
theorem e44 : c44 = .region 12 r44 false := by kernel_rfl
theorem e45 : c45 = .seq c46 c93 := by kernel_rfl
theorem e46 : c46 = .seq c47 c48 := by kernel_rfl
noncomputable def r47 : Array Oper := match c47 with | .region _ x _ => x | _ => #[]
theorem e47 : c47 = .region 13 r47 false := by kernel_rfl
theorem e48 : c48 = .cond (.tmp 39) c49 c71 := by kernel_rfl
theorem e49 : c49 = .seq c50 c64 := by kernel_rfl
theorem e50 : c50 = .seq c51 c52 := by kernel_rfl
noncomputable def r51 : Array Oper := match c51 with | .region _ x _ => x | _ => #[]
theorem e51 : c51 = .region 14 r51 false := by kernel_rfl
theorem e52 : c52 = .block 2 c53 := by kernel_rfl
theorem e53 : c53 = .loop c54 := by kernel_rfl
theorem e54 : c54 = .seq c55 c60 := by kernel_rfl
theorem e55 : c55 = .seq c56 c57 := by kernel_rfl
noncomputable def r56 : Array Oper := match c56 with | .region _ x _ => x | _ => #[]
theorem e56 : c56 = .region 15 r56 false := by kernel_rfl
theorem e57 : c57 = .cond (.tmp 47) c58 c59 := by kernel_rfl
theorem e58 : c58 = .skip := by kernel_rfl
theorem e59 : c59 = .exit 2 := by kernel_rfl
theorem e60 : c60 = .seq c61 c63 := by kernel_rfl
theorem e61 : c61 = .block 3 c62 := by kernel_rfl
noncomputable def r62 : Array Oper := match c62 with | .region _ x _ => x | _ => #[]
theorem e62 : c62 = .region 17 r62 false := by kernel_rfl
noncomputable def r63 : Array Oper := match c63 with | .region _ x _ => x | _ => #[]
theorem e63 : c63 = .region 16 r63 false := by kernel_rfl
theorem e64 : c64 = .seq c65 c66 := by kernel_rfl
noncomputable def r65 : Array Oper := match c65 with | .region _ x _ => x | _ => #[]
theorem e65 : c65 = .region 18 r65 false := by kernel_rfl
theorem e66 : c66 = .cond (.tmp 71) c67 c70 := by kernel_rfl
theorem e67 : c67 = .seq c68 c69 := by kernel_rfl
noncomputable def r68 : Array Oper := match c68 with | .region _ x _ => x | _ => #[]
theorem e68 : c68 = .region 19 r68 false := by kernel_rfl
theorem e69 : c69 = .ret := by kernel_rfl
theorem e70 : c70 = .skip := by kernel_rfl
theorem e71 : c71 = .seq c72 c86 := by kernel_rfl
theorem e72 : c72 = .seq c73 c74 := by kernel_rfl
noncomputable def r73 : Array Oper := match c73 with | .region _ x _ => x | _ => #[]
theorem e73 : c73 = .region 20 r73 false := by kernel_rfl
theorem e74 : c74 = .block 4 c75 := by kernel_rfl
theorem e75 : c75 = .loop c76 := by kernel_rfl
theorem e76 : c76 = .seq c77 c82 := by kernel_rfl
theorem e77 : c77 = .seq c78 c79 := by kernel_rfl
noncomputable def r78 : Array Oper := match c78 with | .region _ x _ => x | _ => #[]
theorem e78 : c78 = .region 21 r78 false := by kernel_rfl
theorem e79 : c79 = .cond (.tmp 79) c80 c81 := by kernel_rfl
theorem e80 : c80 = .skip := by kernel_rfl
theorem e81 : c81 = .exit 4 := by kernel_rfl
theorem e82 : c82 = .seq c83 c85 := by kernel_rfl
theorem e83 : c83 = .block 5 c84 := by kernel_rfl
noncomputable def r84 : Array Oper := match c84 with | .region _ x _ => x | _ => #[]
theorem e84 : c84 = .region 23 r84 false := by kernel_rfl
noncomputable def r85 : Array Oper := match c85 with | .region _ x _ => x | _ => #[]
theorem e85 : c85 = .region 22 r85 false := by kernel_rfl
theorem e86 : c86 = .seq c87 c88 := by kernel_rfl
noncomputable def r87 : Array Oper := match c87 with | .region _ x _ => x | _ => #[]
theorem e87 : c87 = .region 24 r87 false := by kernel_rfl
theorem e88 : c88 = .cond (.tmp 103) c89 c92 := by kernel_rfl
theorem e89 : c89 = .seq c90 c91 := by kernel_rfl
noncomputable def r90 : Array Oper := match c90 with | .region _ x _ => x | _ => #[]
theorem e90 : c90 = .region 25 r90 false := by kernel_rfl
theorem e91 : c91 = .ret := by kernel_rfl
theorem e92 : c92 = .skip := by kernel_rfl
theorem e93 : c93 = .seq c94 c95 := by kernel_rfl
noncomputable def r94 : Array Oper := match c94 with | .region _ x _ => x | _ => #[]
theorem e94 : c94 = .region 26 r94 false := by kernel_rfl
theorem e95 : c95 = .seq c96 c97 := by kernel_rfl
noncomputable def r96 : Array Oper := match c96 with | .region _ x _ => x | _ => #[]
theorem e96 : c96 = .region 27 r96 false := by kernel_rfl
theorem e97 : c97 = .cond (.tmp 140) c98 c101 := by kernel_rfl
theorem e98 : c98 = .seq c99 c100 := by kernel_rfl
noncomputable def r99 : Array Oper := match c99 with | .region _ x _ => x | _ => #[]
theorem e99 : c99 = .region 28 r99 false := by kernel_rfl
theorem e100 : c100 = .ret := by kernel_rfl
theorem e101 : c101 = .skip := by kernel_rfl
noncomputable def r102 : Array Oper := match c102 with | .region _ x _ => x | _ => #[]
theorem e102 : c102 = .region 9 r102 false := by kernel_rfl
theorem e103 : c103 = .seq c104 c105 := by kernel_rfl
noncomputable def r104 : Array Oper := match c104 with | .region _ x _ => x | _ => #[]
theorem e104 : c104 = .region 29 r104 false := by kernel_rfl
theorem e105 : c105 = .ret := by kernel_rfl
theorem body : Try.f4.body = some c0 := by kernel_rfl
section
variable {base : Nat} {W0 : World} {β0 : Bt}
def J6 (D : Dp) (H : Hd) (k : Nat) (rec0 : Sl → Int → (Option HA) → Sl → Int → HS → Option ((Bool) × HS)) (y0 : Sl) (y1 : Int) (y5 : (Option HA)) (y6 : Sl) (y7 : Int) (y140 : Bool) (S : HS) : Option ((Bool) × HS) :=
  (if y140 = true then
  some (false, S) else
  rec0 y0 y1 y5 y6 (w64 (y7 + 1)) S)
theorem J6_snd {D : Dp} {H : Hd} {k : Nat} {rec0 : Sl → Int → (Option HA) → Sl → Int → HS → Option ((Bool) × HS)} (hD : DSound Try.prog base W0 D) (hH : HSound Try.prog base W0 β0 H) (hrec0 : ∀ ⦃y0 : Sl⦄ ⦃y1 : Int⦄ ⦃y5 : (Option HA)⦄ ⦃y6 : Sl⦄ ⦃y7 : Int⦄ ⦃S : HS⦄ ⦃p : (Bool) × HS⦄ ⦃g2 g3 g4 g8 g9 g10 g11 g12 g13 g14 g15 g16 g17 g18 g19 g20 g21 g22 g23 g24 g25 g26 g27 g28 g29 g30 g31 g32 g33 g34 g35 g36 g37 g38 g39 g40 g41 g42 g43 g44 g45 g46 g47 g48 g49 g50 g51 g52 g53 g54 g55 g56 g57 g58 g59 g60 g61 g62 g63 g64 g65 g66 g67 g68 g69 g70 g71 g72 g73 g74 g75 g76 g77 g78 g79 g80 g81 g82 g83 g84 g85 g86 g87 g88 g89 g90 g91 g92 g93 g94 g95 g96 g97 g98 g99 g100 g101 g102 g103 g104 g105 g106 g107 g108 g109 g110 g111 g112 g113 g114 g115 g116 g117 g118 g119 g120 g121 g122 g123 g124 g125 g126 g127 g128 g129 g130 g131 g132 g133 g134 g135 g136 g137 g138 g139 g140 : HV⦄, rec0 y0 y1 y5 y6 y7 S = some p → HRun Try.prog base W0 β0 4 none [.inLoop c27, .inBlock 0, .code c103] ⟨[(Sl.hv y0), (.int .i64 y1), g2, g3, g4, (.ptr y5), (Sl.hv y6), (.int .i64 y7), g8, g9, g10, g11, g12, g13, g14, g15, g16, g17, g18, g19, g20, g21, g22, g23, g24, g25, g26, g27, g28, g29, g30, g31, g32, g33, g34, g35, g36, g37, g38, g39, g40, g41, g42, g43, g44, g45, g46, g47, g48, g49, g50, g51, g52, g53, g54, g55, g56, g57, g58, g59, g60, g61, g62, g63, g64, g65, g66, g67, g68, g69, g70, g71, g72, g73, g74, g75, g76, g77, g78, g79, g80, g81, g82, g83, g84, g85, g86, g87, g88, g89, g90, g91, g92, g93, g94, g95, g96, g97, g98, g99, g100, g101, g102, g103, g104, g105, g106, g107, g108, g109, g110, g111, g112, g113, g114, g115, g116, g117, g118, g119, g120, g121, g122, g123, g124, g125, g126, g127, g128, g129, g130, g131, g132, g133, g134, g135, g136, g137, g138, g139, g140], []⟩ S (fun v S1 => v = (.bool p.1) ∧ S1 = p.2)) {y0 : Sl} {y1 : Int} {y5 : (Option HA)} {y6 : Sl} {y7 : Int} {y140 : Bool} {S : HS} {p : (Bool) × HS} {g2 g3 g4 g8 g9 g10 g11 g12 g13 g14 g15 g16 g17 g18 g19 g20 g21 g22 g23 g24 g25 g26 g27 g28 g29 g30 g31 g32 g33 g34 g35 g36 g37 g38 g39 g40 g41 g42 g43 g44 g45 g46 g47 g48 g49 g50 g51 g52 g53 g54 g55 g56 g57 g58 g59 g60 g61 g62 g63 g64 g65 g66 g67 g68 g69 g70 g71 g72 g73 g74 g75 g76 g77 g78 g79 g80 g81 g82 g83 g84 g85 g86 g87 g88 g89 g90 g91 g92 g93 g94 g95 g96 g97 g98 g99 g100 g101 g102 g103 g104 g105 g106 g107 g108 g109 g110 g111 g112 g113 g114 g115 g116 g117 g118 g119 g120 g121 g122 g123 g124 g125 g126 g127 g128 g129 g130 g131 g132 g133 g134 g135 g136 g137 g138 g139 : HV} (h : J6 D H k rec0 y0 y1 y5 y6 y7 y140 S = some p) : HRun Try.prog base W0 β0 4 none [.code c97, .inBlock 1, .code c102, .inLoop c27, .inBlock 0, .code c103] ⟨[(Sl.hv y0), (.int .i64 y1), g2, g3, g4, (.ptr y5), (Sl.hv y6), (.int .i64 y7), g8, g9, g10, g11, g12, g13, g14, g15, g16, g17, g18, g19, g20, g21, g22, g23, g24, g25, g26, g27, g28, g29, g30, g31, g32, g33, g34, g35, g36, g37, g38, g39, g40, g41, g42, g43, g44, g45, g46, g47, g48, g49, g50, g51, g52, g53, g54, g55, g56, g57, g58, g59, g60, g61, g62, g63, g64, g65, g66, g67, g68, g69, g70, g71, g72, g73, g74, g75, g76, g77, g78, g79, g80, g81, g82, g83, g84, g85, g86, g87, g88, g89, g90, g91, g92, g93, g94, g95, g96, g97, g98, g99, g100, g101, g102, g103, g104, g105, g106, g107, g108, g109, g110, g111, g112, g113, g114, g115, g116, g117, g118, g119, g120, g121, g122, g123, g124, g125, g126, g127, g128, g129, g130, g131, g132, g133, g134, g135, g136, g137, g138, g139, (.bool y140)], []⟩ S (fun v S1 => v = (.bool p.1) ∧ S1 = p.2) := by
  unfold J6 at h
  rcases ifc h with ⟨hc30, h⟩ | ⟨hc30, h⟩
  · refine q_cond_t e97 (.tmp rfl) hc30 ?_
    refine q_seq e98 ?_
    refine q_region e99 rfl ?_
    refine q_op (dst := some 4) rfl (fun _ ho => ok_assign ho (.bool _)) ?_
    refine hr_region_end ?_
    try dsimp only [HAct.put, List.set_cons_zero, List.set_cons_succ]
    cases h
    exact q_ret e100 at_.at_ rfl (res1 rfl rfl) ⟨rfl, rfl⟩
  · refine q_cond_f e97 (.tmp rfl) (bfalse hc30) ?_
    refine q_skipc e101 ?_
    refine hr_inBlock ?_
    refine q_region e102 rfl ?_
    refine q_op (dst := some 23) rfl (fun _ ho => ok_move ho (.tmp rfl)) ?_
    refine q_op (dst := some 24) rfl (fun _ ho => ok_ibin ho (.tmp rfl) (.int _ _) rfl) ?_
    refine q_op (dst := some 7) rfl (fun _ ho => ok_assign ho (.tmp rfl)) ?_
    refine hr_region_end ?_
    try dsimp only [HAct.put, List.set_cons_zero, List.set_cons_succ]
    try dsimp only [HAct.put, List.set_cons_zero, List.set_cons_succ]
    exact hrec0 h
def J5 (D : Dp) (H : Hd) (k : Nat) (rec0 : Sl → Int → (Option HA) → Sl → Int → HS → Option ((Bool) × HS)) (y0 : Sl) (y1 : Int) (y5 : (Option HA)) (y6 : Sl) (y7 : Int) (y131 : Bool) (S : HS) : Option ((Bool) × HS) :=
  (if y131 = true then
  J6 D H k rec0 y0 y1 y5 y6 y7 true S else
  (Option.bind (set_Set_int_Has.f k y5 y1 S) fun p31 =>
  (Option.bind (rollcallref10_Has.f k y6 y1 p31.2) fun p32 =>
  J6 D H k rec0 y0 y1 y5 y6 y7 (!(p31.1 == p32.1)) p32.2)))
theorem J5_snd {D : Dp} {H : Hd} {k : Nat} {rec0 : Sl → Int → (Option HA) → Sl → Int → HS → Option ((Bool) × HS)} (hD : DSound Try.prog base W0 D) (hH : HSound Try.prog base W0 β0 H) (hrec0 : ∀ ⦃y0 : Sl⦄ ⦃y1 : Int⦄ ⦃y5 : (Option HA)⦄ ⦃y6 : Sl⦄ ⦃y7 : Int⦄ ⦃S : HS⦄ ⦃p : (Bool) × HS⦄ ⦃g2 g3 g4 g8 g9 g10 g11 g12 g13 g14 g15 g16 g17 g18 g19 g20 g21 g22 g23 g24 g25 g26 g27 g28 g29 g30 g31 g32 g33 g34 g35 g36 g37 g38 g39 g40 g41 g42 g43 g44 g45 g46 g47 g48 g49 g50 g51 g52 g53 g54 g55 g56 g57 g58 g59 g60 g61 g62 g63 g64 g65 g66 g67 g68 g69 g70 g71 g72 g73 g74 g75 g76 g77 g78 g79 g80 g81 g82 g83 g84 g85 g86 g87 g88 g89 g90 g91 g92 g93 g94 g95 g96 g97 g98 g99 g100 g101 g102 g103 g104 g105 g106 g107 g108 g109 g110 g111 g112 g113 g114 g115 g116 g117 g118 g119 g120 g121 g122 g123 g124 g125 g126 g127 g128 g129 g130 g131 g132 g133 g134 g135 g136 g137 g138 g139 g140 : HV⦄, rec0 y0 y1 y5 y6 y7 S = some p → HRun Try.prog base W0 β0 4 none [.inLoop c27, .inBlock 0, .code c103] ⟨[(Sl.hv y0), (.int .i64 y1), g2, g3, g4, (.ptr y5), (Sl.hv y6), (.int .i64 y7), g8, g9, g10, g11, g12, g13, g14, g15, g16, g17, g18, g19, g20, g21, g22, g23, g24, g25, g26, g27, g28, g29, g30, g31, g32, g33, g34, g35, g36, g37, g38, g39, g40, g41, g42, g43, g44, g45, g46, g47, g48, g49, g50, g51, g52, g53, g54, g55, g56, g57, g58, g59, g60, g61, g62, g63, g64, g65, g66, g67, g68, g69, g70, g71, g72, g73, g74, g75, g76, g77, g78, g79, g80, g81, g82, g83, g84, g85, g86, g87, g88, g89, g90, g91, g92, g93, g94, g95, g96, g97, g98, g99, g100, g101, g102, g103, g104, g105, g106, g107, g108, g109, g110, g111, g112, g113, g114, g115, g116, g117, g118, g119, g120, g121, g122, g123, g124, g125, g126, g127, g128, g129, g130, g131, g132, g133, g134, g135, g136, g137, g138, g139, g140], []⟩ S (fun v S1 => v = (.bool p.1) ∧ S1 = p.2)) {y0 : Sl} {y1 : Int} {y5 : (Option HA)} {y6 : Sl} {y7 : Int} {y131 : Bool} {S : HS} {p : (Bool) × HS} {g2 g3 g4 g8 g9 g10 g11 g12 g13 g14 g15 g16 g17 g18 g19 g20 g21 g22 g23 g24 g25 g26 g27 g28 g29 g30 g31 g32 g33 g34 g35 g36 g37 g38 g39 g40 g41 g42 g43 g44 g45 g46 g47 g48 g49 g50 g51 g52 g53 g54 g55 g56 g57 g58 g59 g60 g61 g62 g63 g64 g65 g66 g67 g68 g69 g70 g71 g72 g73 g74 g75 g76 g77 g78 g79 g80 g81 g82 g83 g84 g85 g86 g87 g88 g89 g90 g91 g92 g93 g94 g95 g96 g97 g98 g99 g100 g101 g102 g103 g104 g105 g106 g107 g108 g109 g110 g111 g112 g113 g114 g115 g116 g117 g118 g119 g120 g121 g122 g123 g124 g125 g126 g127 g128 g129 g130 g132 g133 g134 g135 g136 g137 g138 g139 g140 : HV} (h : J5 D H k rec0 y0 y1 y5 y6 y7 y131 S = some p) : HRun Try.prog base W0 β0 4 none [.inRegion r96 [22, 23, 24, 25, 26, 27, 28, 29, 30], .code c97, .inBlock 1, .code c102, .inLoop c27, .inBlock 0, .code c103] ⟨[(Sl.hv y0), (.int .i64 y1), g2, g3, g4, (.ptr y5), (Sl.hv y6), (.int .i64 y7), g8, g9, g10, g11, g12, g13, g14, g15, g16, g17, g18, g19, g20, g21, g22, g23, g24, g25, g26, g27, g28, g29, g30, g31, g32, g33, g34, g35, g36, g37, g38, g39, g40, g41, g42, g43, g44, g45, g46, g47, g48, g49, g50, g51, g52, g53, g54, g55, g56, g57, g58, g59, g60, g61, g62, g63, g64, g65, g66, g67, g68, g69, g70, g71, g72, g73, g74, g75, g76, g77, g78, g79, g80, g81, g82, g83, g84, g85, g86, g87, g88, g89, g90, g91, g92, g93, g94, g95, g96, g97, g98, g99, g100, g101, g102, g103, g104, g105, g106, g107, g108, g109, g110, g111, g112, g113, g114, g115, g116, g117, g118, g119, g120, g121, g122, g123, g124, g125, g126, g127, g128, g129, g130, (.bool y131), g132, g133, g134, g135, g136, g137, g138, g139, g140], []⟩ S (fun v S1 => v = (.bool p.1) ∧ S1 = p.2) := by
  unfold J5 at h
  refine q_op (dst := some 132) rfl (fun _ ho => ok_move ho (.tmp rfl)) ?_
  rcases ifc h with ⟨hc29, h⟩ | ⟨hc29, h⟩
  · refine q_skip (dst := some 133) (t := 132) rfl rfl rfl hc29 ?_
    try dsimp only [HAct.put, List.set_cons_zero, List.set_cons_succ]
    refine q_skip (dst := some 134) (t := 132) rfl rfl rfl hc29 ?_
    refine q_skip (dst := some 135) (t := 132) rfl rfl rfl hc29 ?_
    refine q_skip (dst := some 136) (t := 132) rfl rfl rfl hc29 ?_
    refine q_skip (dst := some 137) (t := 132) rfl rfl rfl hc29 ?_
    try dsimp only [HAct.put, List.set_cons_zero, List.set_cons_succ]
    refine q_skip (dst := some 138) (t := 132) rfl rfl rfl hc29 ?_
    refine q_skip (dst := some 139) (t := 132) rfl rfl rfl hc29 ?_
    refine q_op (dst := some 140) rfl (fun _ ho => ok_pick_tt ho (.tmp rfl) hc29 (.bool _)) ?_
    refine hr_region_end ?_
    try dsimp only [HAct.put, List.set_cons_zero, List.set_cons_succ]
    try dsimp only [HAct.put, List.set_cons_zero, List.set_cons_succ]
    exact J6_snd hD hH hrec0 h
  · refine q_op_g (t := 132) (dst := some 133) rfl rfl rfl (bfalse hc29) (fun _ ho => ok_move ho (.tmp rfl)) ?_
    try dsimp only [HAct.put, List.set_cons_zero, List.set_cons_succ]
    refine q_op_g (t := 132) (dst := some 134) rfl rfl rfl (bfalse hc29) (fun _ ho => ok_move ho (.tmp rfl)) ?_
    obtain ⟨p31, hp31, h⟩ := bindo h
    refine q_call_g (t := 132) (dst := some 135) rfl rfl rfl (bfalse hc29) (.func _) (.cons (.tmp rfl) (.cons (.tmp rfl) Evs.nil)) (HInv.static set_Set_int_Has.at_ set_Set_int_Has.body (set_Set_int_Has.snd  hp31)) ?_
    rintro _ _ ⟨rfl, rfl⟩
    refine q_op_g (t := 132) (dst := some 136) rfl rfl rfl (bfalse hc29) (fun _ ho => ok_move ho (.tmp rfl)) ?_
    refine q_op_g (t := 132) (dst := some 137) rfl rfl rfl (bfalse hc29) (fun _ ho => ok_move ho (.tmp rfl)) ?_
    try dsimp only [HAct.put, List.set_cons_zero, List.set_cons_succ]
    obtain ⟨p32, hp32, h⟩ := bindo h
    refine q_call_g (t := 132) (dst := some 138) rfl rfl rfl (bfalse hc29) (.func _) (.cons (.tmp rfl) (.cons (.tmp rfl) Evs.nil)) (HInv.static rollcallref10_Has.at_ rollcallref10_Has.body (rollcallref10_Has.snd  hp32)) ?_
    rintro _ _ ⟨rfl, rfl⟩
    refine q_op_g (t := 132) (dst := some 139) rfl rfl rfl (bfalse hc29) (fun _ ho => ok_beq ho tu4 (.inr ⟨rfl, rfl⟩) (.tmp rfl) (.tmp rfl)) ?_
    refine q_op (dst := some 140) rfl (fun _ ho => ok_pick_ff ho (.tmp rfl) (bfalse hc29) (.tmp rfl)) ?_
    refine hr_region_end ?_
    try dsimp only [HAct.put, List.set_cons_zero, List.set_cons_succ]
    try dsimp only [HAct.put, List.set_cons_zero, List.set_cons_succ]
    exact J6_snd hD hH hrec0 h
def J4 (D : Dp) (H : Hd) (k : Nat) (rec0 : Sl → Int → (Option HA) → Sl → Int → HS → Option ((Bool) × HS)) (y0 : Sl) (y1 : Int) (y5 : (Option HA)) (y6 : Sl) (y7 : Int) (y124 : Bool) (S : HS) : Option ((Bool) × HS) :=
  (if y124 = true then
  J5 D H k rec0 y0 y1 y5 y6 y7 true S else
  (Option.bind (set_Set_int_Len.f y5 S) fun p33 =>
  J5 D H k rec0 y0 y1 y5 y6 y7 (!decide (p33.1 = (Sl.len y6 : Int))) p33.2))
theorem J4_snd {D : Dp} {H : Hd} {k : Nat} {rec0 : Sl → Int → (Option HA) → Sl → Int → HS → Option ((Bool) × HS)} (hD : DSound Try.prog base W0 D) (hH : HSound Try.prog base W0 β0 H) (hrec0 : ∀ ⦃y0 : Sl⦄ ⦃y1 : Int⦄ ⦃y5 : (Option HA)⦄ ⦃y6 : Sl⦄ ⦃y7 : Int⦄ ⦃S : HS⦄ ⦃p : (Bool) × HS⦄ ⦃g2 g3 g4 g8 g9 g10 g11 g12 g13 g14 g15 g16 g17 g18 g19 g20 g21 g22 g23 g24 g25 g26 g27 g28 g29 g30 g31 g32 g33 g34 g35 g36 g37 g38 g39 g40 g41 g42 g43 g44 g45 g46 g47 g48 g49 g50 g51 g52 g53 g54 g55 g56 g57 g58 g59 g60 g61 g62 g63 g64 g65 g66 g67 g68 g69 g70 g71 g72 g73 g74 g75 g76 g77 g78 g79 g80 g81 g82 g83 g84 g85 g86 g87 g88 g89 g90 g91 g92 g93 g94 g95 g96 g97 g98 g99 g100 g101 g102 g103 g104 g105 g106 g107 g108 g109 g110 g111 g112 g113 g114 g115 g116 g117 g118 g119 g120 g121 g122 g123 g124 g125 g126 g127 g128 g129 g130 g131 g132 g133 g134 g135 g136 g137 g138 g139 g140 : HV⦄, rec0 y0 y1 y5 y6 y7 S = some p → HRun Try.prog base W0 β0 4 none [.inLoop c27, .inBlock 0, .code c103] ⟨[(Sl.hv y0), (.int .i64 y1), g2, g3, g4, (.ptr y5), (Sl.hv y6), (.int .i64 y7), g8, g9, g10, g11, g12, g13, g14, g15, g16, g17, g18, g19, g20, g21, g22, g23, g24, g25, g26, g27, g28, g29, g30, g31, g32, g33, g34, g35, g36, g37, g38, g39, g40, g41, g42, g43, g44, g45, g46, g47, g48, g49, g50, g51, g52, g53, g54, g55, g56, g57, g58, g59, g60, g61, g62, g63, g64, g65, g66, g67, g68, g69, g70, g71, g72, g73, g74, g75, g76, g77, g78, g79, g80, g81, g82, g83, g84, g85, g86, g87, g88, g89, g90, g91, g92, g93, g94, g95, g96, g97, g98, g99, g100, g101, g102, g103, g104, g105, g106, g107, g108, g109, g110, g111, g112, g113, g114, g115, g116, g117, g118, g119, g120, g121, g122, g123, g124, g125, g126, g127, g128, g129, g130, g131, g132, g133, g134, g135, g136, g137, g138, g139, g140], []⟩ S (fun v S1 => v = (.bool p.1) ∧ S1 = p.2)) {y0 : Sl} {y1 : Int} {y5 : (Option HA)} {y6 : Sl} {y7 : Int} {y124 : Bool} {S : HS} {p : (Bool) × HS} {g2 g3 g4 g8 g9 g10 g11 g12 g13 g14 g15 g16 g17 g18 g19 g20 g21 g22 g23 g24 g25 g26 g27 g28 g29 g30 g31 g32 g33 g34 g35 g36 g37 g38 g39 g40 g41 g42 g43 g44 g45 g46 g47 g48 g49 g50 g51 g52 g53 g54 g55 g56 g57 g58 g59 g60 g61 g62 g63 g64 g65 g66 g67 g68 g69 g70 g71 g72 g73 g74 g75 g76 g77 g78 g79 g80 g81 g82 g83 g84 g85 g86 g87 g88 g89 g90 g91 g92 g93 g94 g95 g96 g97 g98 g99 g100 g101 g102 g103 g104 g105 g106 g107 g108 g109 g110 g111 g112 g113 g114 g115 g116 g117 g118 g119 g120 g121 g122 g123 g125 g126 g127 g128 g129 g130 g131 g132 g133 g134 g135 g136 g137 g138 g139 g140 : HV} (h : J4 D H k rec0 y0 y1 y5 y6 y7 y124 S = some p) : HRun Try.prog base W0 β0 4 none [.inRegion r96 [15, 16, 17, 18, 19, 20, 21, 22, 23, 24, 25, 26, 27, 28, 29, 30], .code c97, .inBlock 1, .code c102, .inLoop c27, .inBlock 0, .code c103] ⟨[(Sl.hv y0), (.int .i64 y1), g2, g3, g4, (.ptr y5), (Sl.hv y6), (.int .i64 y7), g8, g9, g10, g11, g12, g13, g14, g15, g16, g17, g18, g19, g20, g21, g22, g23, g24, g25, g26, g27, g28, g29, g30, g31, g32, g33, g34, g35, g36, g37, g38, g39, g40, g41, g42, g43, g44, g45, g46, g47, g48, g49, g50, g51, g52, g53, g54, g55, g56, g57, g58, g59, g60, g61, g62, g63, g64, g65, g66, g67, g68, g69, g70, g71, g72, g73, g74, g75, g76, g77, g78, g79, g80, g81, g82, g83, g84, g85, g86, g87, g88, g89, g90, g91, g92, g93, g94, g95, g96, g97, g98, g99, g100, g101, g102, g103, g104, g105, g106, g107, g108, g109, g110, g111, g112, g113, g114, g115, g116, g117, g118, g119, g120, g121, g122, g123, (.bool y124), g125, g126, g127, g128, g129, g130, g131, g132, g133, g134, g135, g136, g137, g138, g139, g140], []⟩ S (fun v S1 => v = (.bool p.1) ∧ S1 = p.2) := by
  unfold J4 at h
  refine q_op (dst := some 125) rfl (fun _ ho => ok_move ho (.tmp rfl)) ?_
  try dsimp only [HAct.put, List.set_cons_zero, List.set_cons_succ]
  rcases ifc h with ⟨hc28, h⟩ | ⟨hc28, h⟩
  · refine q_skip (dst := some 126) (t := 125) rfl rfl rfl hc28 ?_
    refine q_skip (dst := some 127) (t := 125) rfl rfl rfl hc28 ?_
    refine q_skip (dst := some 128) (t := 125) rfl rfl rfl hc28 ?_
    refine q_skip (dst := some 129) (t := 125) rfl rfl rfl hc28 ?_
    try dsimp only [HAct.put, List.set_cons_zero, List.set_cons_succ]
    refine q_skip (dst := some 130) (t := 125) rfl rfl rfl hc28 ?_
    refine q_op (dst := some 131) rfl (fun _ ho => ok_pick_tt ho (.tmp rfl) hc28 (.bool _)) ?_
    try dsimp only [HAct.put, List.set_cons_zero, List.set_cons_succ]
    exact J5_snd hD hH hrec0 h
  · refine q_op_g (t := 125) (dst := some 126) rfl rfl rfl (bfalse hc28) (fun _ ho => ok_move ho (.tmp rfl)) ?_
    obtain ⟨p33, hp33, h⟩ := bindo h
    refine q_call_g (t := 125) (dst := some 127) rfl rfl rfl (bfalse hc28) (.func _) (.cons (.tmp rfl) Evs.nil) (HInv.static set_Set_int_Len.at_ set_Set_int_Len.body (set_Set_int_Len.snd  hp33)) ?_
    rintro _ _ ⟨rfl, rfl⟩
    refine q_op_g (t := 125) (dst := some 128) rfl rfl rfl (bfalse hc28) (fun _ ho => ok_move ho (.tmp rfl)) ?_
    refine q_op_g (t := 125) (dst := some 129) rfl rfl rfl (bfalse hc28) (fun _ ho => ok_len_sl (q := Sl.a y6) (n := Sl.len y6) (z := Sl.cap y6) ho rfl tu24 (.tmp rfl)) ?_
    try dsimp only [HAct.put, List.set_cons_zero, List.set_cons_succ]
    refine q_op_g (t := 125) (dst := some 130) rfl rfl rfl (bfalse hc28) (fun _ ho => ok_ibin ho (.tmp rfl) (.tmp rfl) rfl) ?_
    refine q_op (dst := some 131) rfl (fun _ ho => ok_pick_ff ho (.tmp rfl) (bfalse hc28) (.tmp rfl)) ?_
    try dsimp only [HAct.put, List.set_cons_zero, List.set_cons_succ]
    exact J5_snd hD hH hrec0 h
def J3 (D : Dp) (H : Hd) (k : Nat) (rec0 : Sl → Int → (Option HA) → Sl → Int → HS → Option ((Bool) × HS)) (y0 : Sl) (y1 : Int) (y5 : (Option HA)) (y6 : Sl) (y7 : Int) (y117 : Bool) (S : HS) : Option ((Bool) × HS) :=
  (if y117 = true then
  J4 D H k rec0 y0 y1 y5 y6 y7 true S else
  (Option.bind (set_Set_int_List.f y5 S) fun p34 =>
  (Option.bind (rollcallref10_Same.f k p34.1 y6 p34.2) fun p35 =>
  J4 D H k rec0 y0 y1 y5 y6 y7 (!p35.1) p35.2)))
theorem J3_snd {D : Dp} {H : Hd} {k : Nat} {rec0 : Sl → Int → (Option HA) → Sl → Int → HS → Option ((Bool) × HS)} (hD : DSound Try.prog base W0 D) (hH : HSound Try.prog base W0 β0 H) (hrec0 : ∀ ⦃y0 : Sl⦄ ⦃y1 : Int⦄ ⦃y5 : (Option HA)⦄ ⦃y6 : Sl⦄ ⦃y7 : Int⦄ ⦃S : HS⦄ ⦃p : (Bool) × HS⦄ ⦃g2 g3 g4 g8 g9 g10 g11 g12 g13 g14 g15 g16 g17 g18 g19 g20 g21 g22 g23 g24 g25 g26 g27 g28 g29 g30 g31 g32 g33 g34 g35 g36 g37 g38 g39 g40 g41 g42 g43 g44 g45 g46 g47 g48 g49 g50 g51 g52 g53 g54 g55 g56 g57 g58 g59 g60 g61 g62 g63 g64 g65 g66 g67 g68 g69 g70 g71 g72 g73 g74 g75 g76 g77 g78 g79 g80 g81 g82 g83 g84 g85 g86 g87 g88 g89 g90 g91 g92 g93 g94 g95 g96 g97 g98 g99 g100 g101 g102 g103 g104 g105 g106 g107 g108 g109 g110 g111 g112 g113 g114 g115 g116 g117 g118 g119 g120 g121 g122 g123 g124 g125 g126 g127 g128 g129 g130 g131 g132 g133 g134 g135 g136 g137 g138 g139 g140 : HV⦄, rec0 y0 y1 y5 y6 y7 S = some p → HRun Try.prog base W0 β0 4 none [.inLoop c27, .inBlock 0, .code c103] ⟨[(Sl.hv y0), (.int .i64 y1), g2, g3, g4, (.ptr y5), (Sl.hv y6), (.int .i64 y7), g8, g9, g10, g11, g12, g13, g14, g15, g16, g17, g18, g19, g20, g21, g22, g23, g24, g25, g26, g27, g28, g29, g30, g31, g32, g33, g34, g35, g36, g37, g38, g39, g40, g41, g42, g43, g44, g45, g46, g47, g48, g49, g50, g51, g52, g53, g54, g55, g56, g57, g58, g59, g60, g61, g62, g63, g64, g65, g66, g67, g68, g69, g70, g71, g72, g73, g74, g75, g76, g77, g78, g79, g80, g81, g82, g83, g84, g85, g86, g87, g88, g89, g90, g91, g92, g93, g94, g95, g96, g97, g98, g99, g100, g101, g102, g103, g104, g105, g106, g107, g108, g109, g110, g111, g112, g113, g114, g115, g116, g117, g118, g119, g120, g121, g122, g123, g124, g125, g126, g127, g128, g129, g130, g131, g132, g133, g134, g135, g136, g137, g138, g139, g140], []⟩ S (fun v S1 => v = (.bool p.1) ∧ S1 = p.2)) {y0 : Sl} {y1 : Int} {y5 : (Option HA)} {y6 : Sl} {y7 : Int} {y117 : Bool} {S : HS} {p : (Bool) × HS} {g2 g3 g4 g8 g9 g10 g11 g12 g13 g14 g15 g16 g17 g18 g19 g20 g21 g22 g23 g24 g25 g26 g27 g28 g29 g30 g31 g32 g33 g34 g35 g36 g37 g38 g39 g40 g41 g42 g43 g44 g45 g46 g47 g48 g49 g50 g51 g52 g53 g54 g55 g56 g57 g58 g59 g60 g61 g62 g63 g64 g65 g66 g67 g68 g69 g70 g71 g72 g73 g74 g75 g76 g77 g78 g79 g80 g81 g82 g83 g84 g85 g86 g87 g88 g89 g90 g91 g92 g93 g94 g95 g96 g97 g98 g99 g100 g101 g102 g103 g104 g105 g106 g107 g108 g109 g110 g111 g112 g113 g114 g115 g116 g118 g119 g120 g121 g122 g123 g124 g125 g126 g127 g128 g129 g130 g131 g132 g133 g134 g135 g136 g137 g138 g139 g140 : HV} (h : J3 D H k rec0 y0 y1 y5 y6 y7 y117 S = some p) : HRun Try.prog base W0 β0 4 none [.inRegion r96 [8, 9, 10, 11, 12, 13, 14, 15, 16, 17, 18, 19, 20, 21, 22, 23, 24, 25, 26, 27, 28, 29, 30], .code c97, .inBlock 1, .code c102, .inLoop c27, .inBlock 0, .code c103] ⟨[(Sl.hv y0), (.int .i64 y1), g2, g3, g4, (.ptr y5), (Sl.hv y6), (.int .i64 y7), g8, g9, g10, g11, g12, g13, g14, g15, g16, g17, g18, g19, g20, g21, g22, g23, g24, g25, g26, g27, g28, g29, g30, g31, g32, g33, g34, g35, g36, g37, g38, g39, g40, g41, g42, g43, g44, g45, g46, g47, g48, g49, g50, g51, g52, g53, g54, g55, g56, g57, g58, g59, g60, g61, g62, g63, g64, g65, g66, g67, g68, g69, g70, g71, g72, g73, g74, g75, g76, g77, g78, g79, g80, g81, g82, g83, g84, g85, g86, g87, g88, g89, g90, g91, g92, g93, g94, g95, g96, g97, g98, g99, g100, g101, g102, g103, g104, g105, g106, g107, g108, g109, g110, g111, g112, g113, g114, g115, g116, (.bool y117), g118, g119, g120, g121, g122, g123, g124, g125, g126, g127, g128, g129, g130, g131, g132, g133, g134, g135, g136, g137, g138, g139, g140], []⟩ S (fun v S1 => v = (.bool p.1) ∧ S1 = p.2) := by
  unfold J3 at h
  refine q_op (dst := some 118) rfl (fun _ ho => ok_move ho (.tmp rfl)) ?_
  rcases ifc h with ⟨hc27, h⟩ | ⟨hc27, h⟩
  · refine q_skip (dst := some 119) (t := 118) rfl rfl rfl hc27 ?_
    refine q_skip (dst := some 120) (t := 118) rfl rfl rfl hc27 ?_
    refine q_skip (dst := some 121) (t := 118) rfl rfl rfl hc27 ?_
    try dsimp only [HAct.put, List.set_cons_zero, List.set_cons_succ]
    refine q_skip (dst := some 122) (t := 118) rfl rfl rfl hc27 ?_
    refine q_skip (dst := some 123) (t := 118) rfl rfl rfl hc27 ?_
    refine q_op (dst := some 124) rfl (fun _ ho => ok_pick_tt ho (.tmp rfl) hc27 (.bool _)) ?_
    try dsimp only [HAct.put, List.set_cons_zero, List.set_cons_succ]
    exact J4_snd hD hH hrec0 h
  · refine q_op_g (t := 118) (dst := some 119) rfl rfl rfl (bfalse hc27) (fun _ ho => ok_move ho (.tmp rfl)) ?_
    obtain ⟨p34, hp34, h⟩ := bindo h
    refine q_call_g (t := 118) (dst := some 120) rfl rfl rfl (bfalse hc27) (.func _) (.cons (.tmp rfl) Evs.nil) (HInv.static set_Set_int_List.at_ set_Set_int_List.body (set_Set_int_List.snd  hp34)) ?_
    rintro _ _ ⟨rfl, rfl⟩
    refine q_op_g (t := 118) (dst := some 121) rfl rfl rfl (bfalse hc27) (fun _ ho => ok_move ho (.tmp rfl)) ?_
    try dsimp only [HAct.put, List.set_cons_zero, List.set_cons_succ]
    obtain ⟨p35, hp35, h⟩ := bindo h
    refine q_call_g (t := 118) (dst := some 122) rfl rfl rfl (bfalse hc27) (.func _) (.cons (.tmp rfl) (.cons (.tmp rfl) Evs.nil)) (HInv.static rollcallref10_Same.at_ rollcallref10_Same.body (rollcallref10_Same.snd  hp35)) ?_
    rintro _ _ ⟨rfl, rfl⟩
    refine q_op_g (t := 118) (dst := some 123) rfl rfl rfl (bfalse hc27) (fun _ ho => ok_not ho (.tmp rfl)) ?_
    refine q_op (dst := some 124) rfl (fun _ ho => ok_pick_ff ho (.tmp rfl) (bfalse hc27) (.tmp rfl)) ?_
    try dsimp only [HAct.put, List.set_cons_zero, List.set_cons_succ]
    exact J4_snd hD hH hrec0 h
def J2 (D : Dp) (H : Hd) (k : Nat) (rec0 : Sl → Int → (Option HA) → Sl → Int → HS → Option ((Bool) × HS)) (y0 : Sl) (y1 : Int) (y5 : (Option HA)) (y6 : Sl) (y7 : Int) (S : HS) : Option ((Bool) × HS) :=
  (Option.bind (set_Set_int_All.f y5 S) fun p24 =>
  (Option.bind (rollcalllaw10_told.f D H p24.1 400 p24.2) fun p25 =>
  (if (!p25.1.2) = true then
  J3 D H k rec0 y0 y1 y5 y6 y7 true p25.2 else
  (Option.bind (rollcallref10_Same.f k p25.1.1 y6 p25.2) fun p36 =>
  J3 D H k rec0 y0 y1 y5 y6 y7 (!p36.1) p36.2))))
theorem J2_snd {D : Dp} {H : Hd} {k : Nat} {rec0 : Sl → Int → (Option HA) → Sl → Int → HS → Option ((Bool) × HS)} (hD : DSound Try.prog base W0 D) (hH : HSound Try.prog base W0 β0 H) (hrec0 : ∀ ⦃y0 : Sl⦄ ⦃y1 : Int⦄ ⦃y5 : (Option HA)⦄ ⦃y6 : Sl⦄ ⦃y7 : Int⦄ ⦃S : HS⦄ ⦃p : (Bool) × HS⦄ ⦃g2 g3 g4 g8 g9 g10 g11 g12 g13 g14 g15 g16 g17 g18 g19 g20 g21 g22 g23 g24 g25 g26 g27 g28 g29 g30 g31 g32 g33 g34 g35 g36 g37 g38 g39 g40 g41 g42 g43 g44 g45 g46 g47 g48 g49 g50 g51 g52 g53 g54 g55 g56 g57 g58 g59 g60 g61 g62 g63 g64 g65 g66 g67 g68 g69 g70 g71 g72 g73 g74 g75 g76 g77 g78 g79 g80 g81 g82 g83 g84 g85 g86 g87 g88 g89 g90 g91 g92 g93 g94 g95 g96 g97 g98 g99 g100 g101 g102 g103 g104 g105 g106 g107 g108 g109 g110 g111 g112 g113 g114 g115 g116 g117 g118 g119 g120 g121 g122 g123 g124 g125 g126 g127 g128 g129 g130 g131 g132 g133 g134 g135 g136 g137 g138 g139 g140 : HV⦄, rec0 y0 y1 y5 y6 y7 S = some p → HRun Try.prog base W0 β0 4 none [.inLoop c27, .inBlock 0, .code c103] ⟨[(Sl.hv y0), (.int .i64 y1), g2, g3, g4, (.ptr y5), (Sl.hv y6), (.int .i64 y7), g8, g9, g10, g11, g12, g13, g14, g15, g16, g17, g18, g19, g20, g21, g22, g23, g24, g25, g26, g27, g28, g29, g30, g31, g32, g33, g34, g35, g36, g37, g38, g39, g40, g41, g42, g43, g44, g45, g46, g47, g48, g49, g50, g51, g52, g53, g54, g55, g56, g57, g58, g59, g60, g61, g62, g63, g64, g65, g66, g67, g68, g69, g70, g71, g72, g73, g74, g75, g76, g77, g78, g79, g80, g81, g82, g83, g84, g85, g86, g87, g88, g89, g90, g91, g92, g93, g94, g95, g96, g97, g98, g99, g100, g101, g102, g103, g104, g105, g106, g107, g108, g109, g110, g111, g112, g113, g114, g115, g116, g117, g118, g119, g120, g121, g122, g123, g124, g125, g126, g127, g128, g129, g130, g131, g132, g133, g134, g135, g136, g137, g138, g139, g140], []⟩ S (fun v S1 => v = (.bool p.1) ∧ S1 = p.2)) {y0 : Sl} {y1 : Int} {y5 : (Option HA)} {y6 : Sl} {y7 : Int} {S : HS} {p : (Bool) × HS} {g2 g3 g4 g8 g9 g10 g11 g12 g13 g14 g15 g16 g17 g18 g19 g20 g21 g22 g23 g24 g25 g26 g27 g28 g29 g30 g31 g32 g33 g34 g35 g36 g37 g38 g39 g40 g41 g42 g43 g44 g45 g46 g47 g48 g49 g50 g51 g52 g53 g54 g55 g56 g57 g58 g59 g60 g61 g62 g63 g64 g65 g66 g67 g68 g69 g70 g71 g72 g73 g74 g75 g76 g77 g78 g79 g80 g81 g82 g83 g84 g85 g86 g87 g88 g89 g90 g91 g92 g93 g94 g95 g96 g97 g98 g99 g100 g101 g102 g103 g104 g105 g106 g107 g108 g109 g110 g111 g112 g113 g114 g115 g116 g117 g118 g119 g120 g121 g122 g123 g124 g125 g126 g127 g128 g129 g130 g131 g132 g133 g134 g135 g136 g137 g138 g139 g140 : HV} (h : J2 D H k rec0 y0 y1 y5 y6 y7 S = some p) : HRun Try.prog base W0 β0 4 none [.code c93, .inBlock 1, .code c102, .inLoop c27, .inBlock 0, .code c103] ⟨[(Sl.hv y0), (.int .i64 y1), g2, g3, g4, (.ptr y5), (Sl.hv y6), (.int .i64 y7), g8, g9, g10, g11, g12, g13, g14, g15, g16, g17, g18, g19, g20, g21, g22, g23, g24, g25, g26, g27, g28, g29, g30, g31, g32, g33, g34, g35, g36, g37, g38, g39, g40, g41, g42, g43, g44, g45, g46, g47, g48, g49, g50, g51, g52, g53, g54, g55, g56, g57, g58, g59, g60, g61, g62, g63, g64, g65, g66, g67, g68, g69, g70, g71, g72, g73, g74, g75, g76, g77, g78, g79, g80, g81, g82, g83, g84, g85, g86, g87, g88, g89, g90, g91, g92, g93, g94, g95, g96, g97, g98, g99, g100, g101, g102, g103, g104, g105, g106, g107, g108, g109, g110, g111, g112, g113, g114, g115, g116, g117, g118, g119, g120, g121, g122, g123, g124, g125, g126, g127, g128, g129, g130, g131, g132, g133, g134, g135, g136, g137, g138, g139, g140], []⟩ S (fun v S1 => v = (.bool p.1) ∧ S1 = p.2) := by
  unfold J2 at h
  refine q_seq e93 ?_
  refine q_region e94 rfl ?_
  refine q_op (dst := some 105) rfl (fun _ ho => ok_move ho (.tmp rfl)) ?_
  obtain ⟨p24, hp24, h⟩ := bindo h
  refine q_call (dst := some 106) rfl (.func _) (.cons (.tmp rfl) Evs.nil) (HInv.static set_Set_int_All.at_ set_Set_int_All.body (set_Set_int_All.snd  hp24)) ?_
  rintro _ _ ⟨rfl, rfl⟩
  obtain ⟨p25, hp25, h⟩ := bindo h
  refine q_call (dst := some 107) rfl (.func _) (.cons (.tmp rfl) (.cons (.int _ _) Evs.nil)) (HInv.static rollcalllaw10_told.at_ rollcalllaw10_told.body (rollcalllaw10_told.snd hD hH hp25)) ?_
  rintro _ _ ⟨rfl, rfl⟩
  refine q_op (dst := some 104) rfl (fun _ ho => ok_move ho (.tmp rfl)) ?_
  try dsimp only [HAct.put, List.set_cons_zero, List.set_cons_succ]
  refine q_op (dst := some 108) rfl (fun _ ho => ok_extract ho (.tmp rfl) rfl) ?_
  refine q_op (dst := some 109) rfl (fun _ ho => ok_extract ho (.tmp rfl) rfl) ?_
  refine q_op (dst := some 11) rfl (fun _ ho => ok_assign ho (.tmp rfl)) ?_
  refine q_op (dst := some 12) rfl (fun _ ho => ok_assign ho (.tmp rfl)) ?_
  refine hr_region_end ?_
  try dsimp only [HAct.put, List.set_cons_zero, List.set_cons_succ]
  refine q_seq e95 ?_
  refine q_region e96 rfl ?_
  refine q_op (dst := some 110) rfl (fun _ ho => ok_move ho (.tmp rfl)) ?_
  refine q_op (dst := some 111) rfl (fun _ ho => ok_not ho (.tmp rfl)) ?_
  refine q_op (dst := some 112) rfl (fun _ ho => ok_move ho (.tmp rfl)) ?_
  rcases ifc h with ⟨hc26, h⟩ | ⟨hc26, h⟩
  · refine q_skip (dst := some 113) (t := 112) rfl rfl rfl hc26 ?_
    try dsimp only [HAct.put, List.set_cons_zero, List.set_cons_succ]
    refine q_skip (dst := some 114) (t := 112) rfl rfl rfl hc26 ?_
    refine q_skip (dst := some 115) (t := 112) rfl rfl rfl hc26 ?_
    refine q_skip (dst := some 116) (t := 112) rfl rfl rfl hc26 ?_
    refine q_op (dst := some 117) rfl (fun _ ho => ok_pick_tt ho (.tmp rfl) hc26 (.bool _)) ?_
    try dsimp only [HAct.put, List.set_cons_zero, List.set_cons_succ]
    try dsimp only [HAct.put, List.set_cons_zero, List.set_cons_succ]
    exact J3_snd hD hH hrec0 h
  · refine q_op_g (t := 112) (dst := some 113) rfl rfl rfl (bfalse hc26) (fun _ ho => ok_move ho (.tmp rfl)) ?_
    try dsimp only [HAct.put, List.set_cons_zero, List.set_cons_succ]
    refine q_op_g (t := 112) (dst := some 114) rfl rfl rfl (bfalse hc26) (fun _ ho => ok_move ho (.tmp rfl)) ?_
    obtain ⟨p36, hp36, h⟩ := bindo h
    refine q_call_g (t := 112) (dst := some 115) rfl rfl rfl (bfalse hc26) (.func _) (.cons (.tmp rfl) (.cons (.tmp rfl) Evs.nil)) (HInv.static rollcallref10_Same.at_ rollcallref10_Same.body (rollcallref10_Same.snd  hp36)) ?_
    rintro _ _ ⟨rfl, rfl⟩
    refine q_op_g (t := 112) (dst := some 116) rfl rfl rfl (bfalse hc26) (fun _ ho => ok_not ho (.tmp rfl)) ?_
    refine q_op (dst := some 117) rfl (fun _ ho => ok_pick_ff ho (.tmp rfl) (bfalse hc26) (.tmp rfl)) ?_
    try dsimp only [HAct.put, List.set_cons_zero, List.set_cons_succ]
    try dsimp only [HAct.put, List.set_cons_zero, List.set_cons_succ]
    exact J3_snd hD hH hrec0 h
def L1 (D : Dp) (H : Hd) (k : Nat) (rec0 : Sl → Int → (Option HA) → Sl → Int → HS → Option ((Bool) × HS)) : Nat → Sl → Int → (Option HA) → Sl → Int → Int → Int → HS → Option ((Bool) × HS)
  | 0, _, _, _, _, _, _, _, _ => none
  | n + 1, y0, y1, y5, y6, y7, y8, y9, S =>
    (Option.bind (HS.idx S y0 y7 2) fun p12 =>
    (Option.bind (HS.ldSl S (HA.fld p12 1)) fun p13 =>
    (if y9 < (Sl.len p13 : Int) then
    (Option.bind (HS.idx S y0 y7 2) fun p15 =>
    (Option.bind (HS.ldSl S (HA.fld p15 1)) fun p16 =>
    (Option.bind (HS.idx S p16 y9 1) fun p17 =>
    (Option.bind (HS.ldI S .i64 p17) fun p18 =>
    (Option.bind (rollcallref10_Remove.f k y6 p18 S) fun p19 =>
    (L1 D H k rec0 n) y0 y1 y5 p19.1 y7 y8 (w64 (y9 + 1)) p19.2))))) else
    (Option.bind (HS.idx S y0 y7 2) fun p20 =>
    (Option.bind (HS.ldSl S (HA.fld p20 1)) fun p21 =>
    (Option.bind (set_Set_int_Remove.f k y5 p21 S) fun p22 =>
    (if (!decide (p22.1 = (w64 (y8 - (Sl.len y6 : Int))))) = true then
    some (false, p22.2) else
    J2 D H k rec0 y0 y1 y5 y6 y7 p22.2)))))))
theorem L1_snd {D : Dp} {H : Hd} {k : Nat} {rec0 : Sl → Int → (Option HA) → Sl → Int → HS → Option ((Bool) × HS)} (hD : DSound Try.prog base W0 D) (hH : HSound Try.prog base W0 β0 H) (hrec0 : ∀ ⦃y0 : Sl⦄ ⦃y1 : Int⦄ ⦃y5 : (Option HA)⦄ ⦃y6 : Sl⦄ ⦃y7 : Int⦄ ⦃S : HS⦄ ⦃p : (Bool) × HS⦄ ⦃g2 g3 g4 g8 g9 g10 g11 g12 g13 g14 g15 g16 g17 g18 g19 g20 g21 g22 g23 g24 g25 g26 g27 g28 g29 g30 g31 g32 g33 g34 g35 g36 g37 g38 g39 g40 g41 g42 g43 g44 g45 g46 g47 g48 g49 g50 g51 g52 g53 g54 g55 g56 g57 g58 g59 g60 g61 g62 g63 g64 g65 g66 g67 g68 g69 g70 g71 g72 g73 g74 g75 g76 g77 g78 g79 g80 g81 g82 g83 g84 g85 g86 g87 g88 g89 g90 g91 g92 g93 g94 g95 g96 g97 g98 g99 g100 g101 g102 g103 g104 g105 g106 g107 g108 g109 g110 g111 g112 g113 g114 g115 g116 g117 g118 g119 g120 g121 g122 g123 g124 g125 g126 g127 g128 g129 g130 g131 g132 g133 g134 g135 g136 g137 g138 g139 g140 : HV⦄, rec0 y0 y1 y5 y6 y7 S = some p → HRun Try.prog base W0 β0 4 none [.inLoop c27, .inBlock 0, .code c103] ⟨[(Sl.hv y0), (.int .i64 y1), g2, g3, g4, (.ptr y5), (Sl.hv y6), (.int .i64 y7), g8, g9, g10, g11, g12, g13, g14, g15, g16, g17, g18, g19, g20, g21, g22, g23, g24, g25, g26, g27, g28, g29, g30, g31, g32, g33, g34, g35, g36, g37, g38, g39, g40, g41, g42, g43, g44, g45, g46, g47, g48, g49, g50, g51, g52, g53, g54, g55, g56, g57, g58, g59, g60, g61, g62, g63, g64, g65, g66, g67, g68, g69, g70, g71, g72, g73, g74, g75, g76, g77, g78, g79, g80, g81, g82, g83, g84, g85, g86, g87, g88, g89, g90, g91, g92, g93, g94, g95, g96, g97, g98, g99, g100, g101, g102, g103, g104, g105, g106, g107, g108, g109, g110, g111, g112, g113, g114, g115, g116, g117, g118, g119, g120, g121, g122, g123, g124, g125, g126, g127, g128, g129, g130, g131, g132, g133, g134, g135, g136, g137, g138, g139, g140], []⟩ S (fun v S1 => v = (.bool p.1) ∧ S1 = p.2)) : ∀ {n : Nat} ⦃y0 : Sl⦄ ⦃y1 : Int⦄ ⦃y5 : (Option HA)⦄ ⦃y6 : Sl⦄ ⦃y7 : Int⦄ ⦃y8 : Int⦄ ⦃y9 : Int⦄ ⦃S : HS⦄ ⦃p : (Bool) × HS⦄ ⦃g2 g3 g4 g10 g11 g12 g13 g14 g15 g16 g17 g18 g19 g20 g21 g22 g23 g24 g25 g26 g27 g28 g29 g30 g31 g32 g33 g34 g35 g36 g37 g38 g39 g40 g41 g42 g43 g44 g45 g46 g47 g48 g49 g50 g51 g52 g53 g54 g55 g56 g57 g58 g59 g60 g61 g62 g63 g64 g65 g66 g67 g68 g69 g70 g71 g72 g73 g74 g75 g76 g77 g78 g79 g80 g81 g82 g83 g84 g85 g86 g87 g88 g89 g90 g91 g92 g93 g94 g95 g96 g97 g98 g99 g100 g101 g102 g103 g104 g105 g106 g107 g108 g109 g110 g111 g112 g113 g114 g115 g116 g117 g118 g119 g120 g121 g122 g123 g124 g125 g126 g127 g128 g129 g130 g131 g132 g133 g134 g135 g136 g137 g138 g139 g140 : HV⦄, L1 D H k rec0 n y0 y1 y5 y6 y7 y8 y9 S = some p → HRun Try.prog base W0 β0 4 none [.inLoop c54, .inBlock 2, .code c64, .code c93, .inBlock 1, .code c102, .inLoop c27, .inBlock 0, .code c103] ⟨[(Sl.hv y0), (.int .i64 y1), g2, g3, g4, (.ptr y5), (Sl.hv y6), (.int .i64 y7), (.int .i64 y8), (.int .i64 y9), g10, g11, g12, g13, g14, g15, g16, g17, g18, g19, g20, g21, g22, g23, g24, g25, g26, g27, g28, g29, g30, g31, g32, g33, g34, g35, g36, g37, g38, g39, g40, g41, g42, g43, g44, g45, g46, g47, g48, g49, g50, g51, g52, g53, g54, g55, g56, g57, g58, g59, g60, g61, g62, g63, g64, g65, g66, g67, g68, g69, g70, g71, g72, g73, g74, g75, g76, g77, g78, g79, g80, g81, g82, g83, g84, g85, g86, g87, g88, g89, g90, g91, g92, g93, g94, g95, g96, g97, g98, g99, g100, g101, g102, g103, g104, g105, g106, g107, g108, g109, g110, g111, g112, g113, g114, g115, g116, g117, g118, g119, g120, g121, g122, g123, g124, g125, g126, g127, g128, g129, g130, g131, g132, g133, g134, g135, g136, g137, g138, g139, g140], []⟩ S (fun v S1 => v = (.bool p.1) ∧ S1 = p.2) := by
  intro n
  induction n with
  | zero => intro _ _ _ _ _ _ _ _ _ _ _ _ _ _ _ _ _ _ _ _ _ _ _ _ _ _ _ _ _ _ _ _ _ _ _ _ _ _ _ _ _ _ _ _ _ _ _ _ _ _ _ _ _ _ _ _ _ _ _ _ _ _ _ _ _ _ _ _ _ _ _ _ _ _ _ _ _ _ _ _ _ _ _ _ _ _ _ _ _ _ _ _ _ _ _ _ _ _ _ _ _ _ _ _ _ _ _ _ _ _ _ _ _ _ _ _ _ _ _ _ _ _ _ _ _ _ _ _ _ _ _ _ _ _ _ _ _ _ _ _ _ _ _ h; cases h
  | succ n ih =>
    intro y0 y1 y5 y6 y7 y8 y9 S p g2 g3 g4 g10 g11 g12 g13 g14 g15 g16 g17 g18 g19 g20 g21 g22 g23 g24 g25 g26 g27 g28 g29 g30 g31 g32 g33 g34 g35 g36 g37 g38 g39 g40 g41 g42 g43 g44 g45 g46 g47 g48 g49 g50 g51 g52 g53 g54 g55 g56 g57 g58 g59 g60 g61 g62 g63 g64 g65 g66 g67 g68 g69 g70 g71 g72 g73 g74 g75 g76 g77 g78 g79 g80 g81 g82 g83 g84 g85 g86 g87 g88 g89 g90 g91 g92 g93 g94 g95 g96 g97 g98 g99 g100 g101 g102 g103 g104 g105 g106 g107 g108 g109 g110 g111 g112 g113 g114 g115 g116 g117 g118 g119 g120 g121 g122 g123 g124 g125 g126 g127 g128 g129 g130 g131 g132 g133 g134 g135 g136 g137 g138 g139 g140 h
    simp only [L1] at h
    refine hr_inLoop ?_
    refine q_seq e54 ?_
    refine q_seq e55 ?_
    refine q_region e56 rfl ?_
    refine q_op (dst := some 40) rfl (fun _ ho => ok_move ho (.tmp rfl)) ?_
    refine q_op (dst := some 41) rfl (fun _ ho => ok_move ho (.tmp rfl)) ?_
    refine q_op (dst := some 42) rfl (fun _ ho => ok_move ho (.tmp rfl)) ?_
    obtain ⟨p12, hp12, h⟩ := bindo h
    refine q_op (dst := some 43) rfl (fun _ ho => ok_indexAddr (s := y0) ho tu40 sz42 (.tmp rfl) (.tmp rfl) hp12) ?_
    try dsimp only [HAct.put, List.set_cons_zero, List.set_cons_succ]
    refine q_op (dst := some 44) rfl (fun _ ho => ok_fieldAddr_s ho fi42_1 (by decide) (.tmp rfl) rfl) ?_
    obtain ⟨p13, hp13, h⟩ := bindo h
    refine q_op (dst := some 45) rfl (fun _ ho => ok_load_s ho sc24 (.tmp rfl) rfl (ldSl_out hp13)) ?_
    refine q_op (dst := some 46) rfl (fun _ ho => ok_len_sl (q := Sl.a p13) (n := Sl.len p13) (z := Sl.cap p13) ho rfl tu24 (.tmp rfl)) ?_
    refine q_op (dst := some 47) rfl (fun _ ho => ok_ibin ho (.tmp rfl) (.tmp rfl) rfl) ?_
    refine hr_region_end ?_
    try dsimp only [HAct.put, List.set_cons_zero, List.set_cons_succ]
    rcases ifc h with ⟨hc14, h⟩ | ⟨hc14, h⟩
    · refine q_cond_t e57 (.tmp rfl) (decide_eq_true hc14) ?_
      refine q_skipc e58 ?_
      refine q_seq e60 ?_
      refine q_block e61 ?_
      refine q_region e62 rfl ?_
      refine q_op (dst := some 50) rfl (fun _ ho => ok_move ho (.tmp rfl)) ?_
      refine q_op (dst := some 51) rfl (fun _ ho => ok_move ho (.tmp rfl)) ?_
      refine q_op (dst := some 52) rfl (fun _ ho => ok_move ho (.tmp rfl)) ?_
      obtain ⟨p15, hp15, h⟩ := bindo h
      refine q_op (dst := some 53) rfl (fun _ ho => ok_indexAddr (s := y0) ho tu40 sz42 (.tmp rfl) (.tmp rfl) hp15) ?_
      try dsimp only [HAct.put, List.set_cons_zero, List.set_cons_succ]
      refine q_op (dst := some 54) rfl (fun _ ho => ok_fieldAddr_s ho fi42_1 (by decide) (.tmp rfl) rfl) ?_
      obtain ⟨p16, hp16, h⟩ := bindo h
      refine q_op (dst := some 55) rfl (fun _ ho => ok_load_s ho sc24 (.tmp rfl) rfl (ldSl_out hp16)) ?_
      refine q_op (dst := some 56) rfl (fun _ ho => ok_move ho (.tmp rfl)) ?_
      obtain ⟨p17, hp17, h⟩ := bindo h
      refine q_op (dst := some 57) rfl (fun _ ho => ok_indexAddr (s := p16) ho tu24 sz3 (.tmp rfl) (.tmp rfl) hp17) ?_
      try dsimp only [HAct.put, List.set_cons_zero, List.set_cons_succ]
      obtain ⟨p18, hp18, h⟩ := bindo h
      refine q_op (dst := some 58) rfl (fun _ ho => ok_load_s ho sc3 (.tmp rfl) rfl (ldI_out hp18)) ?_
      obtain ⟨p19, hp19, h⟩ := bindo h
      refine q_call (dst := some 59) rfl (.func _) (.cons (.tmp rfl) (.cons (.tmp rfl) Evs.nil)) (HInv.static rollcallref10_Remove.at_ rollcallref10_Remove.body (rollcallref10_Remove.snd  hp19)) ?_
      rintro _ _ ⟨rfl, rfl⟩
      refine q_op (dst := some 6) rfl (fun _ ho => ok_assign ho (.tmp rfl)) ?_
      refine hr_region_end ?_
      try dsimp only [HAct.put, List.set_cons_zero, List.set_cons_succ]
      refine hr_inBlock ?_
      refine q_region e63 rfl ?_
      refine q_op (dst := some 48) rfl (fun _ ho => ok_move ho (.tmp rfl)) ?_
      refine q_op (dst := some 49) rfl (fun _ ho => ok_ibin ho (.tmp rfl) (.int _ _) rfl) ?_
      refine q_op (dst := some 9) rfl (fun _ ho => ok_assign ho (.tmp rfl)) ?_
      refine hr_region_end ?_
      try dsimp only [HAct.put, List.set_cons_zero, List.set_cons_succ]
      try dsimp only [HAct.put, List.set_cons_zero, List.set_cons_succ]
      exact ih h
    · refine q_cond_f e57 (.tmp rfl) (decide_eq_false hc14) ?_
      refine q_exit e59 rfl ?_
      refine q_seq e64 ?_
      refine q_region e65 rfl ?_
      refine q_op (dst := some 60) rfl (fun _ ho => ok_move ho (.tmp rfl)) ?_
      refine q_op (dst := some 61) rfl (fun _ ho => ok_move ho (.tmp rfl)) ?_
      refine q_op (dst := some 62) rfl (fun _ ho => ok_move ho (.tmp rfl)) ?_
      obtain ⟨p20, hp20, h⟩ := bindo h
      refine q_op (dst := some 63) rfl (fun _ ho => ok_indexAddr (s := y0) ho tu40 sz42 (.tmp rfl) (.tmp rfl) hp20) ?_
      try dsimp only [HAct.put, List.set_cons_zero, List.set_cons_succ]
      refine q_op (dst := some 64) rfl (fun _ ho => ok_fieldAddr_s ho fi42_1 (by decide) (.tmp rfl) rfl) ?_
      obtain ⟨p21, hp21, h⟩ := bindo h
      refine q_op (dst := some 65) rfl (fun _ ho => ok_load_s ho sc24 (.tmp rfl) rfl (ldSl_out hp21)) ?_
      obtain ⟨p22, hp22, h⟩ := bindo h
      refine q_call (dst := some 66) rfl (.func _) (.cons (.tmp rfl) (.cons (.tmp rfl) Evs.nil)) (HInv.static set_Set_int_Remove.at_ set_Set_int_Remove.body (set_Set_int_Remove.snd  hp22)) ?_
      rintro _ _ ⟨rfl, rfl⟩
      refine q_op (dst := some 67) rfl (fun _ ho => ok_move ho (.tmp rfl)) ?_
      try dsimp only [HAct.put, List.set_cons_zero, List.set_cons_succ]
      refine q_op (dst := some 68) rfl (fun _ ho => ok_move ho (.tmp rfl)) ?_
      refine q_op (dst := some 69) rfl (fun _ ho => ok_len_sl (q := Sl.a y6) (n := Sl.len y6) (z := Sl.cap y6) ho rfl tu24 (.tmp rfl)) ?_
      refine q_op (dst := some 70) rfl (fun _ ho => ok_ibin ho (.tmp rfl) (.tmp rfl) rfl) ?_
      refine q_op (dst := some 71) rfl (fun _ ho => ok_ibin ho (.tmp rfl) (.tmp rfl) rfl) ?_
      refine hr_region_end ?_
      try dsimp only [HAct.put, List.set_cons_zero, List.set_cons_succ]
      rcases ifc h with ⟨hc23, h⟩ | ⟨hc23, h⟩
      · refine q_cond_t e66 (.tmp rfl) hc23 ?_
        refine q_seq e67 ?_
        refine q_region e68 rfl ?_
        refine q_op (dst := some 4) rfl (fun _ ho => ok_assign ho (.bool _)) ?_
        refine hr_region_end ?_
        try dsimp only [HAct.put, List.set_cons_zero, List.set_cons_succ]
        cases h
        exact q_ret e69 at_.at_ rfl (res1 rfl rfl) ⟨rfl, rfl⟩
      · refine q_cond_f e66 (.tmp rfl) (bfalse hc23) ?_
        refine q_skipc e70 ?_
        try dsimp only [HAct.put, List.set_cons_zero, List.set_cons_succ]
        exact J2_snd hD hH hrec0 h
def L7 (D : Dp) (H : Hd) (k : Nat) (rec0 : Sl → Int → (Option HA) → Sl → Int → HS → Option ((Bool) × HS)) : Nat → Sl → Int → (Option HA) → Sl → Int → Int → Int → HS → Option ((Bool) × HS)
  | 0, _, _, _, _, _, _, _, _ => none
  | n + 1, y0, y1, y5, y6, y7, y8, y10, S =>
    (Option.bind (HS.idx S y0 y7 2) fun p37 =>
    (Option.bind (HS.ldSl S (HA.fld p37 1)) fun p38 =>
    (if y10 < (Sl.len p38 : Int) then
    (Option.bind (HS.idx S y0 y7 2) fun p40 =>
    (Option.bind (HS.ldSl S (HA.fld p40 1)) fun p41 =>
    (Option.bind (HS.idx S p41 y10 1) fun p42 =>
    (Option.bind (HS.ldI S .i64 p42) fun p43 =>
    (Option.bind (rollcallref10_Add.f k y6 p43 S) fun p44 =>
    (L7 D H k rec0 n) y0 y1 y5 p44.1 y7 y8 (w64 (y10 + 1)) p44.2))))) else
    (Option.bind (HS.idx S y0 y7 2) fun p45 =>
    (Option.bind (HS.ldSl S (HA.fld p45 1)) fun p46 =>
    (Option.bind (set_Set_int_Add.f k y5 p46 S) fun p47 =>
    (if (!decide (p47.1 = (w64 ((Sl.len y6 : Int) - y8)))) = true then
    some (false, p47.2) else
    J2 D H k rec0 y0 y1 y5 y6 y7 p47.2)))))))
theorem L7_snd {D : Dp} {H : Hd} {k : Nat} {rec0 : Sl → Int → (Option HA) → Sl → Int → HS → Option ((Bool) × HS)} (hD : DSound Try.prog base W0 D) (hH : HSound Try.prog base W0 β0 H) (hrec0 : ∀ ⦃y0 : Sl⦄ ⦃y1 : Int⦄ ⦃y5 : (Option HA)⦄ ⦃y6 : Sl⦄ ⦃y7 : Int⦄ ⦃S : HS⦄ ⦃p : (Bool) × HS⦄ ⦃g2 g3 g4 g8 g9 g10 g11 g12 g13 g14 g15 g16 g17 g18 g19 g20 g21 g22 g23 g24 g25 g26 g27 g28 g29 g30 g31 g32 g33 g34 g35 g36 g37 g38 g39 g40 g41 g42 g43 g44 g45 g46 g47 g48 g49 g50 g51 g52 g53 g54 g55 g56 g57 g58 g59 g60 g61 g62 g63 g64 g65 g66 g67 g68 g69 g70 g71 g72 g73 g74 g75 g76 g77 g78 g79 g80 g81 g82 g83 g84 g85 g86 g87 g88 g89 g90 g91 g92 g93 g94 g95 g96 g97 g98 g99 g100 g101 g102 g103 g104 g105 g106 g107 g108 g109 g110 g111 g112 g113 g114 g115 g116 g117 g118 g119 g120 g121 g122 g123 g124 g125 g126 g127 g128 g129 g130 g131 g132 g133 g134 g135 g136 g137 g138 g139 g140 : HV⦄, rec0 y0 y1 y5 y6 y7 S = some p → HRun Try.prog base W0 β0 4 none [.inLoop c27, .inBlock 0, .code c103] ⟨[(Sl.hv y0), (.int .i64 y1), g2, g3, g4, (.ptr y5), (Sl.hv y6), (.int .i64 y7), g8, g9, g10, g11, g12, g13, g14, g15, g16, g17, g18, g19, g20, g21, g22, g23, g24, g25, g26, g27, g28, g29, g30, g31, g32, g33, g34, g35, g36, g37, g38, g39, g40, g41, g42, g43, g44, g45, g46, g47, g48, g49, g50, g51, g52, g53, g54, g55, g56, g57, g58, g59, g60, g61, g62, g63, g64, g65, g66, g67, g68, g69, g70, g71, g72, g73, g74, g75, g76, g77, g78, g79, g80, g81, g82, g83, g84, g85, g86, g87, g88, g89, g90, g91, g92, g93, g94, g95, g96, g97, g98, g99, g100, g101, g102, g103, g104, g105, g106, g107, g108, g109, g110, g111, g112, g113, g114, g115, g116, g117, g118, g119, g120, g121, g122, g123, g124, g125, g126, g127, g128, g129, g130, g131, g132, g133, g134, g135, g136, g137, g138, g139, g140], []⟩ S (fun v S1 => v = (.bool p.1) ∧ S1 = p.2)) : ∀ {n : Nat} ⦃y0 : Sl⦄ ⦃y1 : Int⦄ ⦃y5 : (Option HA)⦄ ⦃y6 : Sl⦄ ⦃y7 : Int⦄ ⦃y8 : Int⦄ ⦃y10 : Int⦄ ⦃S : HS⦄ ⦃p : (Bool) × HS⦄ ⦃g2 g3 g4 g9 g11 g12 g13 g14 g15 g16 g17 g18 g19 g20 g21 g22 g23 g24 g25 g26 g27 g28 g29 g30 g31 g32 g33 g34 g35 g36 g37 g38 g39 g40 g41 g42 g43 g44 g45 g46 g47 g48 g49 g50 g51 g52 g53 g54 g55 g56 g57 g58 g59 g60 g61 g62 g63 g64 g65 g66 g67 g68 g69 g70 g71 g72 g73 g74 g75 g76 g77 g78 g79 g80 g81 g82 g83 g84 g85 g86 g87 g88 g89 g90 g91 g92 g93 g94 g95 g96 g97 g98 g99 g100 g101 g102 g103 g104 g105 g106 g107 g108 g109 g110 g111 g112 g113 g114 g115 g116 g117 g118 g119 g120 g121 g122 g123 g124 g125 g126 g127 g128 g129 g130 g131 g132 g133 g134 g135 g136 g137 g138 g139 g140 : HV⦄, L7 D H k rec0 n y0 y1 y5 y6 y7 y8 y10 S = some p → HRun Try.prog base W0 β0 4 none [.inLoop c76, .inBlock 4, .code c86, .code c93, .inBlock 1, .code c102, .inLoop c27, .inBlock 0, .code c103] ⟨[(Sl.hv y0), (.int .i64 y1), g2, g3, g4, (.ptr y5), (Sl.hv y6), (.int .i64 y7), (.int .i64 y8), g9, (.int .i64 y10), g11, g12, g13, g14, g15, g16, g17, g18, g19, g20, g21, g22, g23, g24, g25, g26, g27, g28, g29, g30, g31, g32, g33, g34, g35, g36, g37, g38, g39, g40, g41, g42, g43, g44, g45, g46, g47, g48, g49, g50, g51, g52, g53, g54, g55, g56, g57, g58, g59, g60, g61, g62, g63, g64, g65, g66, g67, g68, g69, g70, g71, g72, g73, g74, g75, g76, g77, g78, g79, g80, g81, g82, g83, g84, g85, g86, g87, g88, g89, g90, g91, g92, g93, g94, g95, g96, g97, g98, g99, g100, g101, g102, g103, g104, g105, g106, g107, g108, g109, g110, g111, g112, g113, g114, g115, g116, g117, g118, g119, g120, g121, g122, g123, g124, g125, g126, g127, g128, g129, g130, g131, g132, g133, g134, g135, g136, g137, g138, g139, g140], []⟩ S (fun v S1 => v = (.bool p.1) ∧ S1 = p.2) := by
  intro n
  induction n with
  | zero => intro _ _ _ _ _ _ _ _ _ _ _ _ _ _ _ _ _ _ _ _ _ _ _ _ _ _ _ _ _ _ _ _ _ _ _ _ _ _ _ _ _ _ _ _ _ _ _ _ _ _ _ _ _ _ _ _ _ _ _ _ _ _ _ _ _ _ _ _ _ _ _ _ _ _ _ _ _ _ _ _ _ _ _ _ _ _ _ _ _ _ _ _ _ _ _ _ _ _ _ _ _ _ _ _ _ _ _ _ _ _ _ _ _ _ _ _ _ _ _ _ _ _ _ _ _ _ _ _ _ _ _ _ _ _ _ _ _ _ _ _ _ _ _ h; cases h
  | succ n ih =>
    intro y0 y1 y5 y6 y7 y8 y10 S p g2 g3 g4 g9 g11 g12 g13 g14 g15 g16 g17 g18 g19 g20 g21 g22 g23 g24 g25 g26 g27 g28 g29 g30 g31 g32 g33 g34 g35 g36 g37 g38 g39 g40 g41 g42 g43 g44 g45 g46 g47 g48 g49 g50 g51 g52 g53 g54 g55 g56 g57 g58 g59 g60 g61 g62 g63 g64 g65 g66 g67 g68 g69 g70 g71 g72 g73 g74 g75 g76 g77 g78 g79 g80 g81 g82 g83 g84 g85 g86 g87 g88 g89 g90 g91 g92 g93 g94 g95 g96 g97 g98 g99 g100 g101 g102 g103 g104 g105 g106 g107 g108 g109 g110 g111 g112 g113 g114 g115 g116 g117 g118 g119 g120 g121 g122 g123 g124 g125 g126 g127 g128 g129 g130 g131 g132 g133 g134 g135 g136 g137 g138 g139 g140 h
    simp only [L7] at h
    refine hr_inLoop ?_
    refine q_seq e76 ?_
    refine q_seq e77 ?_
    refine q_region e78 rfl ?_
    refine q_op (dst := some 72) rfl (fun _ ho => ok_move ho (.tmp rfl)) ?_
    refine q_op (dst := some 73) rfl (fun _ ho => ok_move ho (.tmp rfl)) ?_
    refine q_op (dst := some 74) rfl (fun _ ho => ok_move ho (.tmp rfl)) ?_
    obtain ⟨p37, hp37, h⟩ := bindo h
    refine q_op (dst := some 75) rfl (fun _ ho => ok_indexAddr (s := y0) ho tu40 sz42 (.tmp rfl) (.tmp rfl) hp37) ?_
    try dsimp only [HAct.put, List.set_cons_zero, List.set_cons_succ]
    refine q_op (dst := some 76) rfl (fun _ ho => ok_fieldAddr_s ho fi42_1 (by decide) (.tmp rfl) rfl) ?_
    obtain ⟨p38, hp38, h⟩ := bindo h
    refine q_op (dst := some 77) rfl (fun _ ho => ok_load_s ho sc24 (.tmp rfl) rfl (ldSl_out hp38)) ?_
    refine q_op (dst := some 78) rfl (fun _ ho => ok_len_sl (q := Sl.a p38) (n := Sl.len p38) (z := Sl.cap p38) ho rfl tu24 (.tmp rfl)) ?_
    refine q_op (dst := some 79) rfl (fun _ ho => ok_ibin ho (.tmp rfl) (.tmp rfl) rfl) ?_
    refine hr_region_end ?_
    try dsimp only [HAct.put, List.set_cons_zero, List.set_cons_succ]
    rcases ifc h with ⟨hc39, h⟩ | ⟨hc39, h⟩
    · refine q_cond_t e79 (.tmp rfl) (decide_eq_true hc39) ?_
      refine q_skipc e80 ?_
      refine q_seq e82 ?_
      refine q_block e83 ?_
      refine q_region e84 rfl ?_
      refine q_op (dst := some 82) rfl (fun _ ho => ok_move ho (.tmp rfl)) ?_
      refine q_op (dst := some 83) rfl (fun _ ho => ok_move ho (.tmp rfl)) ?_
      refine q_op (dst := some 84) rfl (fun _ ho => ok_move ho (.tmp rfl)) ?_
      obtain ⟨p40, hp40, h⟩ := bindo h
      refine q_op (dst := some 85) rfl (fun _ ho => ok_indexAddr (s := y0) ho tu40 sz42 (.tmp rfl) (.tmp rfl) hp40) ?_
      try dsimp only [HAct.put, List.set_cons_zero, List.set_cons_succ]
      refine q_op (dst := some 86) rfl (fun _ ho => ok_fieldAddr_s ho fi42_1 (by decide) (.tmp rfl) rfl) ?_
      obtain ⟨p41, hp41, h⟩ := bindo h
      refine q_op (dst := some 87) rfl (fun _ ho => ok_load_s ho sc24 (.tmp rfl) rfl (ldSl_out hp41)) ?_
      refine q_op (dst := some 88) rfl (fun _ ho => ok_move ho (.tmp rfl)) ?_
      obtain ⟨p42, hp42, h⟩ := bindo h
      refine q_op (dst := some 89) rfl (fun _ ho => ok_indexAddr (s := p41) ho tu24 sz3 (.tmp rfl) (.tmp rfl) hp42) ?_
      try dsimp only [HAct.put, List.set_cons_zero, List.set_cons_succ]
      obtain ⟨p43, hp43, h⟩ := bindo h
      refine q_op (dst := some 90) rfl (fun _ ho => ok_load_s ho sc3 (.tmp rfl) rfl (ldI_out hp43)) ?_
      obtain ⟨p44, hp44, h⟩ := bindo h
      refine q_call (dst := some 91) rfl (.func _) (.cons (.tmp rfl) (.cons (.tmp rfl) Evs.nil)) (HInv.static rollcallref10_Add.at_ rollcallref10_Add.body (rollcallref10_Add.snd  hp44)) ?_
      rintro _ _ ⟨rfl, rfl⟩
      refine q_op (dst := some 6) rfl (fun _ ho => ok_assign ho (.tmp rfl)) ?_
      refine hr_region_end ?_
      try dsimp only [HAct.put, List.set_cons_zero, List.set_cons_succ]
      refine hr_inBlock ?_
      refine q_region e85 rfl ?_
      refine q_op (dst := some 80) rfl (fun _ ho => ok_move ho (.tmp rfl)) ?_
      refine q_op (dst := some 81) rfl (fun _ ho => ok_ibin ho (.tmp rfl) (.int _ _) rfl) ?_
      refine q_op (dst := some 10) rfl (fun _ ho => ok_assign ho (.tmp rfl)) ?_
      refine hr_region_end ?_
      try dsimp only [HAct.put, List.set_cons_zero, List.set_cons_succ]
      try dsimp only [HAct.put, List.set_cons_zero, List.set_cons_succ]
      exact ih h
    · refine q_cond_f e79 (.tmp rfl) (decide_eq_false hc39) ?_
      refine q_exit e81 rfl ?_
      refine q_seq e86 ?_
      refine q_region e87 rfl ?_
      refine q_op (dst := some 92) rfl (fun _ ho => ok_move ho (.tmp rfl)) ?_
      refine q_op (dst := some 93) rfl (fun _ ho => ok_move ho (.tmp rfl)) ?_
      refine q_op (dst := some 94) rfl (fun _ ho => ok_move ho (.tmp rfl)) ?_
      obtain ⟨p45, hp45, h⟩ := bindo h
      refine q_op (dst := some 95) rfl (fun _ ho => ok_indexAddr (s := y0) ho tu40 sz42 (.tmp rfl) (.tmp rfl) hp45) ?_
      try dsimp only [HAct.put, List.set_cons_zero, List.set_cons_succ]
      refine q_op (dst := some 96) rfl (fun _ ho => ok_fieldAddr_s ho fi42_1 (by decide) (.tmp rfl) rfl) ?_
      obtain ⟨p46, hp46, h⟩ := bindo h
      refine q_op (dst := some 97) rfl (fun _ ho => ok_load_s ho sc24 (.tmp rfl) rfl (ldSl_out hp46)) ?_
      obtain ⟨p47, hp47, h⟩ := bindo h
      refine q_call (dst := some 98) rfl (.func _) (.cons (.tmp rfl) (.cons (.tmp rfl) Evs.nil)) (HInv.static set_Set_int_Add.at_ set_Set_int_Add.body (set_Set_int_Add.snd  hp47)) ?_
      rintro _ _ ⟨rfl, rfl⟩
      refine q_op (dst := some 99) rfl (fun _ ho => ok_move ho (.tmp rfl)) ?_
      try dsimp only [HAct.put, List.set_cons_zero, List.set_cons_succ]
      refine q_op (dst := some 100) rfl (fun _ ho => ok_len_sl (q := Sl.a y6) (n := Sl.len y6) (z := Sl.cap y6) ho rfl tu24 (.tmp rfl)) ?_
      refine q_op (dst := some 101) rfl (fun _ ho => ok_move ho (.tmp rfl)) ?_
      refine q_op (dst := some 102) rfl (fun _ ho => ok_ibin ho (.tmp rfl) (.tmp rfl) rfl) ?_
      refine q_op (dst := some 103) rfl (fun _ ho => ok_ibin ho (.tmp rfl) (.tmp rfl) rfl) ?_
      refine hr_region_end ?_
      try dsimp only [HAct.put, List.set_cons_zero, List.set_cons_succ]
      rcases ifc h with ⟨hc48, h⟩ | ⟨hc48, h⟩
      · refine q_cond_t e88 (.tmp rfl) hc48 ?_
        refine q_seq e89 ?_
        refine q_region e90 rfl ?_
        refine q_op (dst := some 4) rfl (fun _ ho => ok_assign ho (.bool _)) ?_
        refine hr_region_end ?_
        try dsimp only [HAct.put, List.set_cons_zero, List.set_cons_succ]
        cases h
        exact q_ret e91 at_.at_ rfl (res1 rfl rfl) ⟨rfl, rfl⟩
      · refine q_cond_f e88 (.tmp rfl) (bfalse hc48) ?_
        refine q_skipc e92 ?_
        try dsimp only [HAct.put, List.set_cons_zero, List.set_cons_succ]
        exact J2_snd hD hH hrec0 h
def L0 (D : Dp) (H : Hd) (k : Nat) : Nat → Sl → Int → (Option HA) → Sl → Int → HS → Option ((Bool) × HS)
  | 0, _, _, _, _, _, _ => none
  | n + 1, y0, y1, y5, y6, y7, S =>
    (if y7 < (Sl.len y0 : Int) then
    (Option.bind (HS.idx S y0 y7 2) fun p6 =>
    (Option.bind (HS.ldSl S (HA.fld p6 1)) fun p7 =>
    (if (Sl.len p7 : Int) > 10 then
    some (true, S) else
    (Option.bind (HS.idx S y0 y7 2) fun p9 =>
    (Option.bind (HS.ldI S .i64 (HA.fld p9 0)) fun p10 =>
    (if p10 = 1 then
    L1 D H k (L0 D H k n) k y0 y1 y5 y6 y7 (Sl.len y6 : Int) 0 S else
    L7 D H k (L0 D H k n) k y0 y1 y5 y6 y7 (Sl.len y6 : Int) 0 S)))))) else
    some (true, S))
theorem L0_snd {D : Dp} {H : Hd} {k : Nat} (hD : DSound Try.prog base W0 D) (hH : HSound Try.prog base W0 β0 H)  : ∀ {n : Nat} ⦃y0 : Sl⦄ ⦃y1 : Int⦄ ⦃y5 : (Option HA)⦄ ⦃y6 : Sl⦄ ⦃y7 : Int⦄ ⦃S : HS⦄ ⦃p : (Bool) × HS⦄ ⦃g2 g3 g4 g8 g9 g10 g11 g12 g13 g14 g15 g16 g17 g18 g19 g20 g21 g22 g23 g24 g25 g26 g27 g28 g29 g30 g31 g32 g33 g34 g35 g36 g37 g38 g39 g40 g41 g42 g43 g44 g45 g46 g47 g48 g49 g50 g51 g52 g53 g54 g55 g56 g57 g58 g59 g60 g61 g62 g63 g64 g65 g66 g67 g68 g69 g70 g71 g72 g73 g74 g75 g76 g77 g78 g79 g80 g81 g82 g83 g84 g85 g86 g87 g88 g89 g90 g91 g92 g93 g94 g95 g96 g97 g98 g99 g100 g101 g102 g103 g104 g105 g106 g107 g108 g109 g110 g111 g112 g113 g114 g115 g116 g117 g118 g119 g120 g121 g122 g123 g124 g125 g126 g127 g128 g129 g130 g131 g132 g133 g134 g135 g136 g137 g138 g139 g140 : HV⦄, L0 D H k n y0 y1 y5 y6 y7 S = some p → HRun Try.prog base W0 β0 4 none [.inLoop c27, .inBlock 0, .code c103] ⟨[(Sl.hv y0), (.int .i64 y1), g2, g3, g4, (.ptr y5), (Sl.hv y6), (.int .i64 y7), g8, g9, g10, g11, g12, g13, g14, g15, g16, g17, g18, g19, g20, g21, g22, g23, g24, g25, g26, g27, g28, g29, g30, g31, g32, g33, g34, g35, g36, g37, g38, g39, g40, g41, g42, g43, g44, g45, g46, g47, g48, g49, g50, g51, g52, g53, g54, g55, g56, g57, g58, g59, g60, g61, g62, g63, g64, g65, g66, g67, g68, g69, g70, g71, g72, g73, g74, g75, g76, g77, g78, g79, g80, g81, g82, g83, g84, g85, g86, g87, g88, g89, g90, g91, g92, g93, g94, g95, g96, g97, g98, g99, g100, g101, g102, g103, g104, g105, g106, g107, g108, g109, g110, g111, g112, g113, g114, g115, g116, g117, g118, g119, g120, g121, g122, g123, g124, g125, g126, g127, g128, g129, g130, g131, g132, g133, g134, g135, g136, g137, g138, g139, g140], []⟩ S (fun v S1 => v = (.bool p.1) ∧ S1 = p.2) := by
  intro n
  induction n with
  | zero => intro _ _ _ _ _ _ _ _ _ _ _ _ _ _ _ _ _ _ _ _ _ _ _ _ _ _ _ _ _ _ _ _ _ _ _ _ _ _ _ _ _ _ _ _ _ _ _ _ _ _ _ _ _ _ _ _ _ _ _ _ _ _ _ _ _ _ _ _ _ _ _ _ _ _ _ _ _ _ _ _ _ _ _ _ _ _ _ _ _ _ _ _ _ _ _ _ _ _ _ _ _ _ _ _ _ _ _ _ _ _ _ _ _ _ _ _ _ _ _ _ _ _ _ _ _ _ _ _ _ _ _ _ _ _ _ _ _ _ _ _ _ _ _ h; cases h
  | succ n ih =>
    intro y0 y1 y5 y6 y7 S p g2 g3 g4 g8 g9 g10 g11 g12 g13 g14 g15 g16 g17 g18 g19 g20 g21 g22 g23 g24 g25 g26 g27 g28 g29 g30 g31 g32 g33 g34 g35 g36 g37 g38 g39 g40 g41 g42 g43 g44 g45 g46 g47 g48 g49 g50 g51 g52 g53 g54 g55 g56 g57 g58 g59 g60 g61 g62 g63 g64 g65 g66 g67 g68 g69 g70 g71 g72 g73 g74 g75 g76 g77 g78 g79 g80 g81 g82 g83 g84 g85 g86 g87 g88 g89 g90 g91 g92 g93 g94 g95 g96 g97 g98 g99 g100 g101 g102 g103 g104 g105 g106 g107 g108 g109 g110 g111 g112 g113 g114 g115 g116 g117 g118 g119 g120 g121 g122 g123 g124 g125 g126 g127 g128 g129 g130 g131 g132 g133 g134 g135 g136 g137 g138 g139 g140 h
    simp only [L0] at h
    refine hr_inLoop ?_
    refine q_seq e27 ?_
    refine q_seq e28 ?_
    refine q_region e29 rfl ?_
    refine q_op (dst := some 19) rfl (fun _ ho => ok_move ho (.tmp rfl)) ?_
    refine q_op (dst := some 20) rfl (fun _ ho => ok_move ho (.tmp rfl)) ?_
    refine q_op (dst := some 21) rfl (fun _ ho => ok_len_sl (q := Sl.a y0) (n := Sl.len y0) (z := Sl.cap y0) ho rfl tu40 (.tmp rfl)) ?_
    refine q_op (dst := some 22) rfl (fun _ ho => ok_ibin ho (.tmp rfl) (.tmp rfl) rfl) ?_
    refine hr_region_end ?_
    try dsimp only [HAct.put, List.set_cons_zero, List.set_cons_succ]
    rcases ifc h with ⟨hc5, h⟩ | ⟨hc5, h⟩
    · refine q_cond_t e30 (.tmp rfl) (decide_eq_true hc5) ?_
      refine q_skipc e31 ?_
      refine q_seq e33 ?_
      refine q_block e34 ?_
      refine q_seq e35 ?_
      refine q_seq e36 ?_
      refine q_region e37 rfl ?_
      refine q_op (dst := some 25) rfl (fun _ ho => ok_move ho (.tmp rfl)) ?_
      refine q_op (dst := some 26) rfl (fun _ ho => ok_move ho (.tmp rfl)) ?_
      obtain ⟨p6, hp6, h⟩ := bindo h
      refine q_op (dst := some 27) rfl (fun _ ho => ok_indexAddr (s := y0) ho tu40 sz42 (.tmp rfl) (.tmp rfl) hp6) ?_
      refine q_op (dst := some 28) rfl (fun _ ho => ok_fieldAddr_s ho fi42_1 (by decide) (.tmp rfl) rfl) ?_
      try dsimp only [HAct.put, List.set_cons_zero, List.set_cons_succ]
      obtain ⟨p7, hp7, h⟩ := bindo h
      refine q_op (dst := some 29) rfl (fun _ ho => ok_load_s ho sc24 (.tmp rfl) rfl (ldSl_out hp7)) ?_
      refine q_op (dst := some 30) rfl (fun _ ho => ok_len_sl (q := Sl.a p7) (n := Sl.len p7) (z := Sl.cap p7) ho rfl tu24 (.tmp rfl)) ?_
      refine q_op (dst := some 31) rfl (fun _ ho => ok_ibin ho (.tmp rfl) (.int _ _) rfl) ?_
      refine hr_region_end ?_
      try dsimp only [HAct.put, List.set_cons_zero, List.set_cons_succ]
      rcases ifc h with ⟨hc8, h⟩ | ⟨hc8, h⟩
      · refine q_cond_t e38 (.tmp rfl) (decide_eq_true hc8) ?_
        refine q_seq e39 ?_
        refine q_region e40 rfl ?_
        refine q_op (dst := some 4) rfl (fun _ ho => ok_assign ho (.bool _)) ?_
        refine hr_region_end ?_
        try dsimp only [HAct.put, List.set_cons_zero, List.set_cons_succ]
        cases h
        exact q_ret e41 at_.at_ rfl (res1 rfl rfl) ⟨rfl, rfl⟩
      · refine q_cond_f e38 (.tmp rfl) (decide_eq_false hc8) ?_
        refine q_skipc e42 ?_
        refine q_seq e43 ?_
        refine q_region e44 rfl ?_
        refine q_op (dst := some 32) rfl (fun _ ho => ok_move ho (.tmp rfl)) ?_
        refine q_op (dst := some 33) rfl (fun _ ho => ok_len_sl (q := Sl.a y6) (n := Sl.len y6) (z := Sl.cap y6) ho rfl tu24 (.tmp rfl)) ?_
        refine q_op (dst := some 8) rfl (fun _ ho => ok_assign ho (.tmp rfl)) ?_
        refine hr_region_end ?_
        try dsimp only [HAct.put, List.set_cons_zero, List.set_cons_succ]
        refine q_seq e45 ?_
        refine q_seq e46 ?_
        refine q_region e47 rfl ?_
        refine q_op (dst := some 34) rfl (fun _ ho => ok_move ho (.tmp rfl)) ?_
        refine q_op (dst := some 35) rfl (fun _ ho => ok_move ho (.tmp rfl)) ?_
        obtain ⟨p9, hp9, h⟩ := bindo h
        refine q_op (dst := some 36) rfl (fun _ ho => ok_indexAddr (s := y0) ho tu40 sz42 (.tmp rfl) (.tmp rfl) hp9) ?_
        refine q_op (dst := some 37) rfl (fun _ ho => ok_fieldAddr_s ho fi42_0 (by decide) (.tmp rfl) rfl) ?_
        try dsimp only [HAct.put, List.set_cons_zero, List.set_cons_succ]
        obtain ⟨p10, hp10, h⟩ := bindo h
        refine q_op (dst := some 38) rfl (fun _ ho => ok_load_s ho sc3 (.tmp rfl) rfl (ldI_out hp10)) ?_
        refine q_op (dst := some 39) rfl (fun _ ho => ok_ibin ho (.tmp rfl) (.int _ _) rfl) ?_
        refine hr_region_end ?_
        try dsimp only [HAct.put, List.set_cons_zero, List.set_cons_succ]
        rcases ifc h with ⟨hc11, h⟩ | ⟨hc11, h⟩
        · refine q_cond_t e48 (.tmp rfl) (decide_eq_true hc11) ?_
          refine q_seq e49 ?_
          refine q_seq e50 ?_
          refine q_region e51 rfl ?_
          refine q_op (dst := some 9) rfl (fun _ ho => ok_assign ho (.int _ _)) ?_
          refine hr_region_end ?_
          try dsimp only [HAct.put, List.set_cons_zero, List.set_cons_succ]
          refine q_block e52 ?_
          refine q_loop e53 ?_
          try dsimp only [HAct.put, List.set_cons_zero, List.set_cons_succ]
          exact L1_snd hD hH ih h
        · refine q_cond_f e48 (.tmp rfl) (decide_eq_false hc11) ?_
          refine q_seq e71 ?_
          refine q_seq e72 ?_
          refine q_region e73 rfl ?_
          refine q_op (dst := some 10) rfl (fun _ ho => ok_assign ho (.int _ _)) ?_
          refine hr_region_end ?_
          try dsimp only [HAct.put, List.set_cons_zero, List.set_cons_succ]
          refine q_block e74 ?_
          refine q_loop e75 ?_
          try dsimp only [HAct.put, List.set_cons_zero, List.set_cons_succ]
          exact L7_snd hD hH ih h
    · refine q_cond_f e30 (.tmp rfl) (decide_eq_false hc5) ?_
      refine q_exit e32 rfl ?_
      refine q_seq e103 ?_
      refine q_region e104 rfl ?_
      refine q_op (dst := some 4) rfl (fun _ ho => ok_assign ho (.bool _)) ?_
      refine hr_region_end ?_
      try dsimp only [HAct.put, List.set_cons_zero, List.set_cons_succ]
      cases h
      exact q_ret e105 at_.at_ rfl (res1 rfl rfl) ⟨rfl, rfl⟩
def f (D : Dp) (H : Hd) (k : Nat) (x0 : Sl) (x1 : Int) (S : HS) : Option ((Bool) × HS) :=
  (Option.bind (rollcalllaw10_awake.f D H k S) fun p1 =>
  (if (!p1.1) = true then
  some (false, p1.2) else
  (if (Sl.len x0 : Int) > 30 then
  some (true, p1.2) else
  (Option.bind (set_Of_int.f k Sl.nil p1.2) fun p4 =>
  L0 D H k k x0 x1 p4.1 Sl.nil 0 p4.2))))
theorem snd {D : Dp} {H : Hd} {k : Nat} {x0 : Sl} {x1 : Int} {S : HS} (hD : DSound Try.prog base W0 D) (hH : HSound Try.prog base W0 β0 H)  {p : (Bool) × HS} (h : f D H k x0 x1 S = some p) : HCall Try.prog base W0 β0 4 [(Sl.hv x0), (.int .i64 x1)] S (fun v S1 => v = (.bool p.1) ∧ S1 = p.2) := by
  unfold f at h
  refine HCall.of_run at_.at_ body ?_
  show HRun Try.prog base W0 β0 4 none [.code c0] ⟨[(Sl.hv x0), (.int .i64 x1), .tup [], .tup [], .tup [], .tup [], .tup [], .tup [], .tup [], .tup [], .tup [], .tup [], .tup [], .tup [], .tup [], .tup [], .tup [], .tup [], .tup [], .tup [], .tup [], .tup [], .tup [], .tup [], .tup [], .tup [], .tup [], .tup [], .tup [], .tup [], .tup [], .tup [], .tup [], .tup [], .tup [], .tup [], .tup [], .tup [], .tup [], .tup [], .tup [], .tup [], .tup [], .tup [], .tup [], .tup [], .tup [], .tup [], .tup [], .tup [], .tup [], .tup [], .tup [], .tup [], .tup [], .tup [], .tup [], .tup [], .tup [], .tup [], .tup [], .tup [], .tup [], .tup [], .tup [], .tup [], .tup [], .tup [], .tup [], .tup [], .tup [], .tup [], .tup [], .tup [], .tup [], .tup [], .tup [], .tup [], .tup [], .tup [], .tup [], .tup [], .tup [], .tup [], .tup [], .tup [], .tup [], .tup [], .tup [], .tup [], .tup [], .tup [], .tup [], .tup [], .tup [], .tup [], .tup [], .tup [], .tup [], .tup [], .tup [], .tup [], .tup [], .tup [], .tup [], .tup [], .tup [], .tup [], .tup [], .tup [], .tup [], .tup [], .tup [], .tup [], .tup [], .tup [], .tup [], .tup [], .tup [], .tup [], .tup [], .tup [], .tup [], .tup [], .tup [], .tup [], .tup [], .tup [], .tup [], .tup [], .tup [], .tup [], .tup [], .tup [], .tup [], .tup [], .tup [], .tup [], .tup [], .tup [], .tup []], []⟩ S _
  refine q_seq e0 ?_
  refine q_region e1 rfl ?_
  refine q_op (dst := some 4) rfl (fun _ ho => ok_assign ho (.bool _)) ?_
  refine hr_region_end ?_
  try dsimp only [HAct.put, List.set_cons_zero, List.set_cons_succ]
  refine q_seq e2 ?_
  refine q_seq e3 ?_
  refine q_region e4 rfl ?_
  obtain ⟨p1, hp1, h⟩ := bindo h
  refine q_call (dst := some 13) rfl (.func _) Evs.nil (HInv.static rollcalllaw10_awake.at_ rollcalllaw10_awake.body (rollcalllaw10_awake.snd hD hH hp1)) ?_
  rintro _ _ ⟨rfl, rfl⟩
  refine q_op (dst := some 14) rfl (fun _ ho => ok_not ho (.tmp rfl)) ?_
  refine hr_region_end ?_
  try dsimp only [HAct.put, List.set_cons_zero, List.set_cons_succ]
  rcases ifc h with ⟨hc2, h⟩ | ⟨hc2, h⟩
  · refine q_cond_t e5 (.tmp rfl) hc2 ?_
    refine q_seq e6 ?_
    refine q_region e7 rfl ?_
    refine q_op (dst := some 4) rfl (fun _ ho => ok_assign ho (.bool _)) ?_
    refine hr_region_end ?_
    try dsimp only [HAct.put, List.set_cons_zero, List.set_cons_succ]
    cases h
    exact q_ret e8 at_.at_ rfl (res1 rfl rfl) ⟨rfl, rfl⟩
  · refine q_cond_f e5 (.tmp rfl) (bfalse hc2) ?_
    refine q_skipc e9 ?_
    refine q_seq e10 ?_
    refine q_seq e11 ?_
    refine q_region e12 rfl ?_
    refine q_op (dst := some 15) rfl (fun _ ho => ok_move ho (.tmp rfl)) ?_
    refine q_op (dst := some 16) rfl (fun _ ho => ok_len_sl (q := Sl.a x0) (n := Sl.len x0) (z := Sl.cap x0) ho rfl tu40 (.tmp rfl)) ?_
    refine q_op (dst := some 17) rfl (fun _ ho => ok_ibin ho (.tmp rfl) (.int _ _) rfl) ?_
    refine hr_region_end ?_
    try dsimp only [HAct.put, List.set_cons_zero, List.set_cons_succ]
    rcases ifc h with ⟨hc3, h⟩ | ⟨hc3, h⟩
    · refine q_cond_t e13 (.tmp rfl) (decide_eq_true hc3) ?_
      refine q_seq e14 ?_
      refine q_region e15 rfl ?_
      refine q_op (dst := some 4) rfl (fun _ ho => ok_assign ho (.bool _)) ?_
      refine hr_region_end ?_
      try dsimp only [HAct.put, List.set_cons_zero, List.set_cons_succ]
      cases h
      exact q_ret e16 at_.at_ rfl (res1 rfl rfl) ⟨rfl, rfl⟩
    · refine q_cond_f e13 (.tmp rfl) (decide_eq_false hc3) ?_
      refine q_skipc e17 ?_
      refine q_seq e18 ?_
      refine q_region e19 rfl ?_
      obtain ⟨p4, hp4, h⟩ := bindo h
      refine q_call (dst := some 18) rfl (.func _) (.cons (.const fun _ => .slNil none) Evs.nil) (HInv.static set_Of_int.at_ set_Of_int.body (set_Of_int.snd  hp4)) ?_
      rintro _ _ ⟨rfl, rfl⟩
      refine q_op (dst := some 5) rfl (fun _ ho => ok_assign ho (.tmp rfl)) ?_
      refine hr_region_end ?_
      try dsimp only [HAct.put, List.set_cons_zero, List.set_cons_succ]
      refine q_seq e20 ?_
      refine q_region e21 rfl ?_
      refine q_op (dst := some 6) rfl (fun _ ho => ok_assign ho (.const fun _ => .slNil none)) ?_
      refine hr_region_end ?_
      try dsimp only [HAct.put, List.set_cons_zero, List.set_cons_succ]
      refine q_seq e22 ?_
      refine q_seq e23 ?_
      refine q_region e24 rfl ?_
      refine q_op (dst := some 7) rfl (fun _ ho => ok_assign ho (.int _ _)) ?_
      refine hr_region_end ?_
      try dsimp only [HAct.put, List.set_cons_zero, List.set_cons_succ]
      refine q_block e25 ?_
      refine q_loop e26 ?_
      try dsimp only [HAct.put, List.set_cons_zero, List.set_cons_succ]
      exact L0_snd hD hH h
end
end rollcalllaw10_SetPlays
end Go.Proofs.Ytpdainofeaombaa.X
