/- Functions of the program, each as a Lean function over the layer HL: a call answers what the Lean function answers, where it answers. -/
import Derived.Test.YtlfdfkldolgkoaaProg
import Derived.Test.YtlfdfkldolgkoaaTmPlay2
namespace Go.Proofs.Ytlfdfkldolgkoaa.X
open Go.Proofs.Ytlfdfkldolgkoaa.HL
set_option linter.unusedVariables false
set_option linter.unusedSimpArgs false
set_option maxRecDepth 20000
set_option maxHeartbeats 4000000
namespace rollcalllaw09_TimerPlays
abbrev id : Nat := 3
theorem at_ : FnAt Try.prog 3 Try.f3 := ⟨Try.func3, by kernel_rfl⟩
noncomputable def c0 : Code := (Try.f3.body).getD .skip
noncomputable def c1 : Code := match c0 with | .seq x _ => x | _ => .skip
noncomputable def c2 : Code := match c0 with | .seq _ x => x | _ => .skip
noncomputable def c3 : Code := match c2 with | .seq x _ => x | _ => .skip
noncomputable def c4 : Code := match c3 with | .seq x _ => x | _ => .skip
noncomputable def c5 : Code := match c3 with | .seq _ x => x | _ => .skip
noncomputable def c6 : Code := match c5 with | .cond _ x _ => x | _ => .skip
noncomputable def c7 : Code := match c6 with | .seq x _ => x | _ => .skip
noncomputable def c8 : Code := match c6 with | .seq _ x => x | _ => .skip
noncomputable def c9 : Code := match c5 with | .cond _ _ x => x | _ => .skip
noncomputable def c10 : Code := match c2 with | .seq _ x => x | _ => .skip
noncomputable def c11 : Code := match c10 with | .seq x _ => x | _ => .skip
noncomputable def c12 : Code := match c11 with | .seq x _ => x | _ => .skip
noncomputable def c13 : Code := match c11 with | .seq _ x => x | _ => .skip
noncomputable def c14 : Code := match c13 with | .cond _ x _ => x | _ => .skip
noncomputable def c15 : Code := match c14 with | .seq x _ => x | _ => .skip
noncomputable def c16 : Code := match c14 with | .seq _ x => x | _ => .skip
noncomputable def c17 : Code := match c13 with | .cond _ _ x => x | _ => .skip
noncomputable def c18 : Code := match c10 with | .seq _ x => x | _ => .skip
noncomputable def c19 : Code := match c18 with | .seq x _ => x | _ => .skip
noncomputable def c20 : Code := match c18 with | .seq _ x => x | _ => .skip
noncomputable def c21 : Code := match c20 with | .seq x _ => x | _ => .skip
noncomputable def c22 : Code := match c20 with | .seq _ x => x | _ => .skip
noncomputable def c23 : Code := match c22 with | .seq x _ => x | _ => .skip
noncomputable def c24 : Code := match c23 with | .seq x _ => x | _ => .skip
noncomputable def c25 : Code := match c23 with | .seq _ x => x | _ => .skip
noncomputable def c26 : Code := match c25 with | .block _ x => x | _ => .skip
noncomputable def c27 : Code := match c26 with | .loop x => x | _ => .skip
noncomputable def c28 : Code := match c27 with | .seq x _ => x | _ => .skip
noncomputable def c29 : Code := match c28 with | .seq x _ => x | _ => .skip
noncomputable def c30 : Code := match c28 with | .seq _ x => x | _ => .skip
noncomputable def c31 : Code := match c30 with | .cond _ x _ => x | _ => .skip
noncomputable def c32 : Code := match c30 with | .cond _ _ x => x | _ => .skip
noncomputable def c33 : Code := match c27 with | .seq _ x => x | _ => .skip
noncomputable def c34 : Code := match c33 with | .seq x _ => x | _ => .skip
noncomputable def c35 : Code := match c34 with | .block _ x => x | _ => .skip
noncomputable def c36 : Code := match c35 with | .seq x _ => x | _ => .skip
noncomputable def c37 : Code := match c35 with | .seq _ x => x | _ => .skip
noncomputable def c38 : Code := match c37 with | .seq x _ => x | _ => .skip
noncomputable def c39 : Code := match c38 with | .seq x _ => x | _ => .skip
noncomputable def c40 : Code := match c38 with | .seq _ x => x | _ => .skip
noncomputable def c41 : Code := match c40 with | .block _ x => x | _ => .skip
noncomputable def c42 : Code := match c41 with | .seq x _ => x | _ => .skip
noncomputable def c43 : Code := match c41 with | .seq _ x => x | _ => .skip
noncomputable def c44 : Code := match c43 with | .cond _ x _ => x | _ => .skip
noncomputable def c45 : Code := match c44 with | .seq x _ => x | _ => .skip
noncomputable def c46 : Code := match c44 with | .seq _ x => x | _ => .skip
noncomputable def c47 : Code := match c46 with | .cond _ x _ => x | _ => .skip
noncomputable def c48 : Code := match c47 with | .seq x _ => x | _ => .skip
noncomputable def c49 : Code := match c47 with | .seq _ x => x | _ => .skip
noncomputable def c50 : Code := match c46 with | .cond _ _ x => x | _ => .skip
noncomputable def c51 : Code := match c43 with | .cond _ _ x => x | _ => .skip
noncomputable def c52 : Code := match c51 with | .seq x _ => x | _ => .skip
noncomputable def c53 : Code := match c51 with | .seq _ x => x | _ => .skip
noncomputable def c54 : Code := match c53 with | .cond _ x _ => x | _ => .skip
noncomputable def c55 : Code := match c54 with | .seq x _ => x | _ => .skip
noncomputable def c56 : Code := match c54 with | .seq _ x => x | _ => .skip
noncomputable def c57 : Code := match c56 with | .seq x _ => x | _ => .skip
noncomputable def c58 : Code := match c57 with | .seq x _ => x | _ => .skip
noncomputable def c59 : Code := match c57 with | .seq _ x => x | _ => .skip
noncomputable def c60 : Code := match c59 with | .cond _ x _ => x | _ => .skip
noncomputable def c61 : Code := match c60 with | .seq x _ => x | _ => .skip
noncomputable def c62 : Code := match c60 with | .seq _ x => x | _ => .skip
noncomputable def c63 : Code := match c59 with | .cond _ _ x => x | _ => .skip
noncomputable def c64 : Code := match c56 with | .seq _ x => x | _ => .skip
noncomputable def c65 : Code := match c64 with | .seq x _ => x | _ => .skip
noncomputable def c66 : Code := match c64 with | .seq _ x => x | _ => .skip
noncomputable def c67 : Code := match c66 with | .block _ x => x | _ => .skip
noncomputable def c68 : Code := match c67 with | .loop x => x | _ => .skip
noncomputable def c69 : Code := match c68 with | .seq x _ => x | _ => .skip
noncomputable def c70 : Code := match c69 with | .seq x _ => x | _ => .skip
noncomputable def c71 : Code := match c69 with | .seq _ x => x | _ => .skip
noncomputable def c72 : Code := match c71 with | .cond _ x _ => x | _ => .skip
noncomputable def c73 : Code := match c71 with | .cond _ _ x => x | _ => .skip
noncomputable def c74 : Code := match c68 with | .seq _ x => x | _ => .skip
noncomputable def c75 : Code := match c74 with | .seq x _ => x | _ => .skip
noncomputable def c76 : Code := match c75 with | .block _ x => x | _ => .skip
noncomputable def c77 : Code := match c76 with | .seq x _ => x | _ => .skip
noncomputable def c78 : Code := match c77 with | .seq x _ => x | _ => .skip
noncomputable def c79 : Code := match c77 with | .seq _ x => x | _ => .skip
noncomputable def c80 : Code := match c79 with | .cond _ x _ => x | _ => .skip
noncomputable def c81 : Code := match c80 with | .seq x _ => x | _ => .skip
noncomputable def c82 : Code := match c80 with | .seq _ x => x | _ => .skip
noncomputable def c83 : Code := match c79 with | .cond _ _ x => x | _ => .skip
noncomputable def c84 : Code := match c76 with | .seq _ x => x | _ => .skip
noncomputable def c85 : Code := match c74 with | .seq _ x => x | _ => .skip
noncomputable def c86 : Code := match c53 with | .cond _ _ x => x | _ => .skip
noncomputable def c87 : Code := match c86 with | .seq x _ => x | _ => .skip
noncomputable def c88 : Code := match c86 with | .seq _ x => x | _ => .skip
noncomputable def c89 : Code := match c37 with | .seq _ x => x | _ => .skip
noncomputable def c90 : Code := match c89 with | .seq x _ => x | _ => .skip
noncomputable def c91 : Code := match c89 with | .seq _ x => x | _ => .skip
noncomputable def c92 : Code := match c91 with | .seq x _ => x | _ => .skip
noncomputable def c93 : Code := match c91 with | .seq _ x => x | _ => .skip
noncomputable def c94 : Code := match c93 with | .seq x _ => x | _ => .skip
noncomputable def c95 : Code := match c93 with | .seq _ x => x | _ => .skip
noncomputable def c96 : Code := match c95 with | .cond _ x _ => x | _ => .skip
noncomputable def c97 : Code := match c96 with | .seq x _ => x | _ => .skip
noncomputable def c98 : Code := match c96 with | .seq _ x => x | _ => .skip
noncomputable def c99 : Code := match c95 with | .cond _ _ x => x | _ => .skip
noncomputable def c100 : Code := match c33 with | .seq _ x => x | _ => .skip
noncomputable def c101 : Code := match c22 with | .seq _ x => x | _ => .skip
noncomputable def c102 : Code := match c101 with | .seq x _ => x | _ => .skip
noncomputable def c103 : Code := match c101 with | .seq _ x => x | _ => .skip
noncomputable def c104 : Code := match c103 with | .seq x _ => x | _ => .skip
noncomputable def c105 : Code := match c103 with | .seq _ x => x | _ => .skip
noncomputable def c106 : Code := match c105 with | .seq x _ => x | _ => .skip
noncomputable def c107 : Code := match c105 with | .seq _ x => x | _ => .skip
theorem e0 : c0 = .seq c1 c2 := by kernel_rfl
noncomputable def r1 : Array Oper := match c1 with | .region _ x _ => x | _ => #[]
theorem e1 : c1 = .region 0 r1 false := by kernel_rfl
theorem e2 : c2 = .seq c3 c10 := by kernel_rfl
theorem e3 : c3 = .seq c4 c5 := by kernel_rfl
noncomputable def r4 : Array Oper := match c4 with | .region _ x _ => x | _ => #[]
theorem e4 : c4 = .region 1 r4 false := by kernel_rfl
theorem e5 : c5 = .cond (.tmp 20) c6 c9 := by kernel_rfl
theorem e6 : c6 = .seq c7 c8 := by kernel_rfl
noncomputable def r7 : Array Oper := match c7 with | .region _ x _ => x | _ => #[]
theorem e7 : c7 = .region 2 r7 false := by kernel_rfl
theorem e8 : c8 = .ret := by kernel_rfl
theorem e9 : c9 = .skip := by kernel_rfl
theorem e10 : c10 = .seq c11 c18 := by kernel_rfl
theorem e11 : c11 = .seq c12 c13 := by kernel_rfl
noncomputable def r12 : Array Oper := match c12 with | .region _ x _ => x | _ => #[]
theorem e12 : c12 = .region 3 r12 false := by kernel_rfl
theorem e13 : c13 = .cond (.tmp 22) c14 c17 := by kernel_rfl
theorem e14 : c14 = .seq c15 c16 := by kernel_rfl
noncomputable def r15 : Array Oper := match c15 with | .region _ x _ => x | _ => #[]
theorem e15 : c15 = .region 4 r15 false := by kernel_rfl
theorem e16 : c16 = .ret := by kernel_rfl
theorem e17 : c17 = .skip := by kernel_rfl
theorem e18 : c18 = .seq c19 c20 := by kernel_rfl
noncomputable def r19 : Array Oper := match c19 with | .region _ x _ => x | _ => #[]
theorem e19 : c19 = .region 5 r19 false := by kernel_rfl
theorem e20 : c20 = .seq c21 c22 := by kernel_rfl
noncomputable def r21 : Array Oper := match c21 with | .region _ x _ => x | _ => #[]
theorem e21 : c21 = .region 6 r21 false := by kernel_rfl
theorem e22 : c22 = .seq c23 c101 := by kernel_rfl
theorem e23 : c23 = .seq c24 c25 := by kernel_rfl
noncomputable def r24 : Array Oper := match c24 with | .region _ x _ => x | _ => #[]
theorem e24 : c24 = .region 7 r24 false := by kernel_rfl
theorem e25 : c25 = .block 0 c26 := by kernel_rfl
theorem e26 : c26 = .loop c27 := by kernel_rfl
theorem e27 : c27 = .seq c28 c33 := by kernel_rfl
theorem e28 : c28 = .seq c29 c30 := by kernel_rfl
noncomputable def r29 : Array Oper := match c29 with | .region _ x _ => x | _ => #[]
theorem e29 : c29 = .region 8 r29 false := by kernel_rfl
theorem e30 : c30 = .cond (.tmp 29) c31 c32 := by kernel_rfl
theorem e31 : c31 = .skip := by kernel_rfl
theorem e32 : c32 = .exit 0 := by kernel_rfl
theorem e33 : c33 = .seq c34 c100 := by kernel_rfl
theorem e34 : c34 = .block 1 c35 := by kernel_rfl
theorem e35 : c35 = .seq c36 c37 := by kernel_rfl
noncomputable def r36 : Array Oper := match c36 with | .region _ x _ => x | _ => #[]
theorem e36 : c36 = .region 10 r36 false := by kernel_rfl
theorem e37 : c37 = .seq c38 c89 := by kernel_rfl
theorem e38 : c38 = .seq c39 c40 := by kernel_rfl
noncomputable def r39 : Array Oper := match c39 with | .region _ x _ => x | _ => #[]
theorem e39 : c39 = .region 11 r39 false := by kernel_rfl
theorem e40 : c40 = .block 2 c41 := by kernel_rfl
theorem e41 : c41 = .seq c42 c43 := by kernel_rfl
noncomputable def r42 : Array Oper := match c42 with | .region _ x _ => x | _ => #[]
theorem e42 : c42 = .region 14 r42 false := by kernel_rfl
theorem e43 : c43 = .cond (.tmp 50) c44 c51 := by kernel_rfl
theorem e44 : c44 = .seq c45 c46 := by kernel_rfl
noncomputable def r45 : Array Oper := match c45 with | .region _ x _ => x | _ => #[]
theorem e45 : c45 = .region 15 r45 true := by kernel_rfl
theorem e46 : c46 = .cond (.tmp 60) c47 c50 := by kernel_rfl
theorem e47 : c47 = .seq c48 c49 := by kernel_rfl
noncomputable def r48 : Array Oper := match c48 with | .region _ x _ => x | _ => #[]
theorem e48 : c48 = .region 16 r48 false := by kernel_rfl
theorem e49 : c49 = .ret := by kernel_rfl
theorem e50 : c50 = .skip := by kernel_rfl
theorem e51 : c51 = .seq c52 c53 := by kernel_rfl
noncomputable def r52 : Array Oper := match c52 with | .region _ x _ => x | _ => #[]
theorem e52 : c52 = .region 17 r52 false := by kernel_rfl
theorem e53 : c53 = .cond (.tmp 61) c54 c86 := by kernel_rfl
theorem e54 : c54 = .seq c55 c56 := by kernel_rfl
noncomputable def r55 : Array Oper := match c55 with | .region _ x _ => x | _ => #[]
theorem e55 : c55 = .region 18 r55 true := by kernel_rfl
theorem e56 : c56 = .seq c57 c64 := by kernel_rfl
theorem e57 : c57 = .seq c58 c59 := by kernel_rfl
noncomputable def r58 : Array Oper := match c58 with | .region _ x _ => x | _ => #[]
theorem e58 : c58 = .region 19 r58 false := by kernel_rfl
theorem e59 : c59 = .cond (.tmp 75) c60 c63 := by kernel_rfl
theorem e60 : c60 = .seq c61 c62 := by kernel_rfl
noncomputable def r61 : Array Oper := match c61 with | .region _ x _ => x | _ => #[]
theorem e61 : c61 = .region 20 r61 false := by kernel_rfl
theorem e62 : c62 = .ret := by kernel_rfl
theorem e63 : c63 = .skip := by kernel_rfl
theorem e64 : c64 = .seq c65 c66 := by kernel_rfl
noncomputable def r65 : Array Oper := match c65 with | .region _ x _ => x | _ => #[]
theorem e65 : c65 = .region 21 r65 false := by kernel_rfl
theorem e66 : c66 = .block 3 c67 := by kernel_rfl
theorem e67 : c67 = .loop c68 := by kernel_rfl
theorem e68 : c68 = .seq c69 c74 := by kernel_rfl
theorem e69 : c69 = .seq c70 c71 := by kernel_rfl
noncomputable def r70 : Array Oper := match c70 with | .region _ x _ => x | _ => #[]
theorem e70 : c70 = .region 22 r70 false := by kernel_rfl
theorem e71 : c71 = .cond (.tmp 79) c72 c73 := by kernel_rfl
theorem e72 : c72 = .skip := by kernel_rfl
theorem e73 : c73 = .exit 3 := by kernel_rfl
theorem e74 : c74 = .seq c75 c85 := by kernel_rfl
theorem e75 : c75 = .block 4 c76 := by kernel_rfl
theorem e76 : c76 = .seq c77 c84 := by kernel_rfl
theorem e77 : c77 = .seq c78 c79 := by kernel_rfl
noncomputable def r78 : Array Oper := match c78 with | .region _ x _ => x | _ => #[]
theorem e78 : c78 = .region 24 r78 true := by kernel_rfl
theorem e79 : c79 = .cond (.tmp 91) c80 c83 := by kernel_rfl
theorem e80 : c80 = .seq c81 c82 := by kernel_rfl
noncomputable def r81 : Array Oper := match c81 with | .region _ x _ => x | _ => #[]
theorem e81 : c81 = .region 25 r81 false := by kernel_rfl
theorem e82 : c82 = .ret := by kernel_rfl
theorem e83 : c83 = .skip := by kernel_rfl
noncomputable def r84 : Array Oper := match c84 with | .region _ x _ => x | _ => #[]
theorem e84 : c84 = .region 26 r84 false := by kernel_rfl
noncomputable def r85 : Array Oper := match c85 with | .region _ x _ => x | _ => #[]
theorem e85 : c85 = .region 23 r85 false := by kernel_rfl
theorem e86 : c86 = .seq c87 c88 := by kernel_rfl
noncomputable def r87 : Array Oper := match c87 with | .region _ x _ => x | _ => #[]
theorem e87 : c87 = .region 12 r87 false := by kernel_rfl
noncomputable def r88 : Array Oper := match c88 with | .region _ x _ => x | _ => #[]
theorem e88 : c88 = .region 13 r88 false := by kernel_rfl
theorem e89 : c89 = .seq c90 c91 := by kernel_rfl
noncomputable def r90 : Array Oper := match c90 with | .region _ x _ => x | _ => #[]
theorem e90 : c90 = .region 27 r90 false := by kernel_rfl
theorem e91 : c91 = .seq c92 c93 := by kernel_rfl
noncomputable def r92 : Array Oper := match c92 with | .region _ x _ => x | _ => #[]
theorem e92 : c92 = .region 28 r92 false := by kernel_rfl
theorem e93 : c93 = .seq c94 c95 := by kernel_rfl
noncomputable def r94 : Array Oper := match c94 with | .region _ x _ => x | _ => #[]
theorem e94 : c94 = .region 29 r94 true := by kernel_rfl
theorem e95 : c95 = .cond (.tmp 155) c96 c99 := by kernel_rfl
theorem e96 : c96 = .seq c97 c98 := by kernel_rfl
noncomputable def r97 : Array Oper := match c97 with | .region _ x _ => x | _ => #[]
theorem e97 : c97 = .region 30 r97 false := by kernel_rfl
theorem e98 : c98 = .ret := by kernel_rfl
theorem e99 : c99 = .skip := by kernel_rfl
noncomputable def r100 : Array Oper := match c100 with | .region _ x _ => x | _ => #[]
theorem e100 : c100 = .region 9 r100 false := by kernel_rfl
theorem e101 : c101 = .seq c102 c103 := by kernel_rfl
noncomputable def r102 : Array Oper := match c102 with | .region _ x _ => x | _ => #[]
theorem e102 : c102 = .region 31 r102 false := by kernel_rfl
theorem e103 : c103 = .seq c104 c105 := by kernel_rfl
noncomputable def r104 : Array Oper := match c104 with | .region _ x _ => x | _ => #[]
theorem e104 : c104 = .region 32 r104 false := by kernel_rfl
theorem e105 : c105 = .seq c106 c107 := by kernel_rfl
noncomputable def r106 : Array Oper := match c106 with | .region _ x _ => x | _ => #[]
theorem e106 : c106 = .region 33 r106 false := by kernel_rfl
theorem e107 : c107 = .ret := by kernel_rfl
theorem body : Try.f3.body = some c0 := by kernel_rfl
section
variable {base : Nat} {W0 : World} {β0 : Bt}
def J2 (D : Dp) (H : Hd) (k : Nat) (rec0 : Sl → Int → (Option HA) → (Option HA) → Int → HS → Option ((Bool) × HS)) (y0 : Sl) (y1 : Int) (y5 : (Option HA)) (y6 : (Option HA)) (y7 : Int) (y155 : Bool) (S : HS) : Option ((Bool) × HS) :=
  (if y155 = true then
  some (false, S) else
  rec0 y0 y1 y5 y6 (w64 (y7 + 1)) S)
theorem J2_snd {D : Dp} {H : Hd} {k : Nat} {rec0 : Sl → Int → (Option HA) → (Option HA) → Int → HS → Option ((Bool) × HS)} (hD : DSound Try.prog base W0 D) (hH : HSound Try.prog base W0 β0 H) (hrec0 : ∀ ⦃y0 : Sl⦄ ⦃y1 : Int⦄ ⦃y5 : (Option HA)⦄ ⦃y6 : (Option HA)⦄ ⦃y7 : Int⦄ ⦃S : HS⦄ ⦃p : (Bool) × HS⦄ ⦃g2 g3 g4 g8 g9 g10 g11 g12 g13 g14 g15 g16 g17 g18 g19 g20 g21 g22 g23 g24 g25 g26 g27 g28 g29 g30 g31 g32 g33 g34 g35 g36 g37 g38 g39 g40 g41 g42 g43 g44 g45 g46 g47 g48 g49 g50 g51 g52 g53 g54 g55 g56 g57 g58 g59 g60 g61 g62 g63 g64 g65 g66 g67 g68 g69 g70 g71 g72 g73 g74 g75 g76 g77 g78 g79 g80 g81 g82 g83 g84 g85 g86 g87 g88 g89 g90 g91 g92 g93 g94 g95 g96 g97 g98 g99 g100 g101 g102 g103 g104 g105 g106 g107 g108 g109 g110 g111 g112 g113 g114 g115 g116 g117 g118 g119 g120 g121 g122 g123 g124 g125 g126 g127 g128 g129 g130 g131 g132 g133 g134 g135 g136 g137 g138 g139 g140 g141 g142 g143 g144 g145 g146 g147 g148 g149 g150 g151 g152 g153 g154 g155 g156 g157 g158 g159 g160 g161 g162 g163 g164 g165 g166 g167 g168 g169 g170 g171 g172 g173 g174 g175 g176 g177 g178 g179 g180 g181 g182 g183 g184 g185 g186 g187 g188 g189 g190 g191 g192 g193 g194 g195 g196 g197 g198 g199 : HV⦄, rec0 y0 y1 y5 y6 y7 S = some p → HRun Try.prog base W0 β0 3 none [.inLoop c27, .inBlock 0, .code c101] ⟨[(Sl.hv y0), (.int .i64 y1), g2, g3, g4, (.ptr y5), (.ptr y6), (.int .i64 y7), g8, g9, g10, g11, g12, g13, g14, g15, g16, g17, g18, g19, g20, g21, g22, g23, g24, g25, g26, g27, g28, g29, g30, g31, g32, g33, g34, g35, g36, g37, g38, g39, g40, g41, g42, g43, g44, g45, g46, g47, g48, g49, g50, g51, g52, g53, g54, g55, g56, g57, g58, g59, g60, g61, g62, g63, g64, g65, g66, g67, g68, g69, g70, g71, g72, g73, g74, g75, g76, g77, g78, g79, g80, g81, g82, g83, g84, g85, g86, g87, g88, g89, g90, g91, g92, g93, g94, g95, g96, g97, g98, g99, g100, g101, g102, g103, g104, g105, g106, g107, g108, g109, g110, g111, g112, g113, g114, g115, g116, g117, g118, g119, g120, g121, g122, g123, g124, g125, g126, g127, g128, g129, g130, g131, g132, g133, g134, g135, g136, g137, g138, g139, g140, g141, g142, g143, g144, g145, g146, g147, g148, g149, g150, g151, g152, g153, g154, g155, g156, g157, g158, g159, g160, g161, g162, g163, g164, g165, g166, g167, g168, g169, g170, g171, g172, g173, g174, g175, g176, g177, g178, g179, g180, g181, g182, g183, g184, g185, g186, g187, g188, g189, g190, g191, g192, g193, g194, g195, g196, g197, g198, g199], []⟩ S (fun v S1 => v = (.bool p.1) ∧ S1 = p.2)) {y0 : Sl} {y1 : Int} {y5 : (Option HA)} {y6 : (Option HA)} {y7 : Int} {y155 : Bool} {S : HS} {p : (Bool) × HS} {g2 g3 g4 g8 g9 g10 g11 g12 g13 g14 g15 g16 g17 g18 g19 g20 g21 g22 g23 g24 g25 g26 g27 g28 g29 g30 g31 g32 g33 g34 g35 g36 g37 g38 g39 g40 g41 g42 g43 g44 g45 g46 g47 g48 g49 g50 g51 g52 g53 g54 g55 g56 g57 g58 g59 g60 g61 g62 g63 g64 g65 g66 g67 g68 g69 g70 g71 g72 g73 g74 g75 g76 g77 g78 g79 g80 g81 g82 g83 g84 g85 g86 g87 g88 g89 g90 g91 g92 g93 g94 g95 g96 g97 g98 g99 g100 g101 g102 g103 g104 g105 g106 g107 g108 g109 g110 g111 g112 g113 g114 g115 g116 g117 g118 g119 g120 g121 g122 g123 g124 g125 g126 g127 g128 g129 g130 g131 g132 g133 g134 g135 g136 g137 g138 g139 g140 g141 g142 g143 g144 g145 g146 g147 g148 g149 g150 g151 g152 g153 g154 g156 g157 g158 g159 g160 g161 g162 g163 g164 g165 g166 g167 g168 g169 g170 g171 g172 g173 g174 g175 g176 g177 g178 g179 g180 g181 g182 g183 g184 g185 g186 g187 g188 g189 g190 g191 g192 g193 g194 g195 g196 g197 g198 g199 : HV} (h : J2 D H k rec0 y0 y1 y5 y6 y7 y155 S = some p) : HRun Try.prog base W0 β0 3 none [.code c95, .inBlock 1, .code c100, .inLoop c27, .inBlock 0, .code c101] ⟨[(Sl.hv y0), (.int .i64 y1), g2, g3, g4, (.ptr y5), (.ptr y6), (.int .i64 y7), g8, g9, g10, g11, g12, g13, g14, g15, g16, g17, g18, g19, g20, g21, g22, g23, g24, g25, g26, g27, g28, g29, g30, g31, g32, g33, g34, g35, g36, g37, g38, g39, g40, g41, g42, g43, g44, g45, g46, g47, g48, g49, g50, g51, g52, g53, g54, g55, g56, g57, g58, g59, g60, g61, g62, g63, g64, g65, g66, g67, g68, g69, g70, g71, g72, g73, g74, g75, g76, g77, g78, g79, g80, g81, g82, g83, g84, g85, g86, g87, g88, g89, g90, g91, g92, g93, g94, g95, g96, g97, g98, g99, g100, g101, g102, g103, g104, g105, g106, g107, g108, g109, g110, g111, g112, g113, g114, g115, g116, g117, g118, g119, g120, g121, g122, g123, g124, g125, g126, g127, g128, g129, g130, g131, g132, g133, g134, g135, g136, g137, g138, g139, g140, g141, g142, g143, g144, g145, g146, g147, g148, g149, g150, g151, g152, g153, g154, (.bool y155), g156, g157, g158, g159, g160, g161, g162, g163, g164, g165, g166, g167, g168, g169, g170, g171, g172, g173, g174, g175, g176, g177, g178, g179, g180, g181, g182, g183, g184, g185, g186, g187, g188, g189, g190, g191, g192, g193, g194, g195, g196, g197, g198, g199], []⟩ S (fun v S1 => v = (.bool p.1) ∧ S1 = p.2) := by
  unfold J2 at h
  rcases ifc h with ⟨hc35, h⟩ | ⟨hc35, h⟩
  · refine q_cond_t e95 (.tmp rfl) hc35 ?_
    refine q_seq e96 ?_
    refine q_region e97 rfl ?_
    refine q_op (dst := some 4) rfl (fun _ ho => ok_assign ho (.bool _)) ?_
    refine hr_region_end ?_
    try dsimp only [HAct.put, List.set_cons_zero, List.set_cons_succ]
    cases h
    exact q_ret e98 at_.at_ rfl (res1 rfl rfl) ⟨rfl, rfl⟩
  · refine q_cond_f e95 (.tmp rfl) (bfalse hc35) ?_
    refine q_skipc e99 ?_
    refine hr_inBlock ?_
    refine q_region e100 rfl ?_
    refine q_op (dst := some 30) rfl (fun _ ho => ok_move ho (.tmp rfl)) ?_
    refine q_op (dst := some 31) rfl (fun _ ho => ok_ibin ho (.tmp rfl) (.int _ _) rfl) ?_
    refine q_op (dst := some 7) rfl (fun _ ho => ok_assign ho (.tmp rfl)) ?_
    refine hr_region_end ?_
    try dsimp only [HAct.put, List.set_cons_zero, List.set_cons_succ]
    try dsimp only [HAct.put, List.set_cons_zero, List.set_cons_succ]
    exact hrec0 h
def J1 (D : Dp) (H : Hd) (k : Nat) (rec0 : Sl → Int → (Option HA) → (Option HA) → Int → HS → Option ((Bool) × HS)) (y0 : Sl) (y1 : Int) (y5 : (Option HA)) (y6 : (Option HA)) (y7 : Int) (y8 : (Option HA)) (S : HS) : Option ((Bool) × HS) :=
  (Option.bind (y8) fun p23 =>
  (Option.bind (HS.ldS S (HA.fld p23 1)) fun p24 =>
  (Option.bind (timer_Table_string_At.f y5 p24 S) fun p25 =>
  (Option.bind (y8) fun p26 =>
  (Option.bind (HS.ldS p25.2 (HA.fld p26 1)) fun p27 =>
  (Option.bind (rollcallref09_Table_At.f k y6 p27 p25.2) fun p28 =>
  (Option.bind (timer_Table_string_Len.f y5 p28.2) fun p29 =>
  (Option.bind (y6) fun p30 =>
  (Option.bind (HS.ldSl p29.2 (HA.fld p30 0)) fun p31 =>
  (Option.bind (HS.ldSl p28.2 (HA.fld p30 0)) fun p32 =>
  (if p32 = p31 then
  (if (!decide (p29.1 = (Sl.len p31 : Int))) = true then
  J2 D H k rec0 y0 y1 y5 y6 y7 true p29.2 else
  (if (!(p25.1.2 == (decide (p28.1 ≥ 0)))) = true then
  J2 D H k rec0 y0 y1 y5 y6 y7 true p29.2 else
  (if p25.1.2 = true then
  (Option.bind (y6) fun p38 =>
  (Option.bind (HS.ldSl p29.2 (HA.fld p38 0)) fun p39 =>
  (Option.bind (HS.idx p29.2 p39 p28.1 2) fun p40 =>
  (Option.bind (HS.ldI p29.2 .i64 (HA.fld p40 1)) fun p41 =>
  (if (!decide (p25.1.1 = p41)) = true then
  J2 D H k rec0 y0 y1 y5 y6 y7 true p29.2 else
  (if (!p25.1.2) = true then
  (if (!decide (p25.1.1 = 0)) = true then
  J2 D H k rec0 y0 y1 y5 y6 y7 true p29.2 else
  (Option.bind (rollcallref09_Table_Due.f k y6 y1 p29.2) fun p45 =>
  (Option.bind (rollcalllaw09_same.f D H k y5 p45.1 y1 p45.2) fun p46 =>
  J2 D H k rec0 y0 y1 y5 y6 y7 (!p46.1) p46.2))) else
  (Option.bind (rollcallref09_Table_Due.f k y6 y1 p29.2) fun p47 =>
  (Option.bind (rollcalllaw09_same.f D H k y5 p47.1 y1 p47.2) fun p48 =>
  J2 D H k rec0 y0 y1 y5 y6 y7 (!p48.1) p48.2)))))))) else
  (if (!p25.1.2) = true then
  (if (!decide (p25.1.1 = 0)) = true then
  J2 D H k rec0 y0 y1 y5 y6 y7 true p29.2 else
  (Option.bind (rollcallref09_Table_Due.f k y6 y1 p29.2) fun p51 =>
  (Option.bind (rollcalllaw09_same.f D H k y5 p51.1 y1 p51.2) fun p52 =>
  J2 D H k rec0 y0 y1 y5 y6 y7 (!p52.1) p52.2))) else
  (Option.bind (rollcallref09_Table_Due.f k y6 y1 p29.2) fun p53 =>
  (Option.bind (rollcalllaw09_same.f D H k y5 p53.1 y1 p53.2) fun p54 =>
  J2 D H k rec0 y0 y1 y5 y6 y7 (!p54.1) p54.2)))))) else none)))))))))))
theorem J1_snd {D : Dp} {H : Hd} {k : Nat} {rec0 : Sl → Int → (Option HA) → (Option HA) → Int → HS → Option ((Bool) × HS)} (hD : DSound Try.prog base W0 D) (hH : HSound Try.prog base W0 β0 H) (hrec0 : ∀ ⦃y0 : Sl⦄ ⦃y1 : Int⦄ ⦃y5 : (Option HA)⦄ ⦃y6 : (Option HA)⦄ ⦃y7 : Int⦄ ⦃S : HS⦄ ⦃p : (Bool) × HS⦄ ⦃g2 g3 g4 g8 g9 g10 g11 g12 g13 g14 g15 g16 g17 g18 g19 g20 g21 g22 g23 g24 g25 g26 g27 g28 g29 g30 g31 g32 g33 g34 g35 g36 g37 g38 g39 g40 g41 g42 g43 g44 g45 g46 g47 g48 g49 g50 g51 g52 g53 g54 g55 g56 g57 g58 g59 g60 g61 g62 g63 g64 g65 g66 g67 g68 g69 g70 g71 g72 g73 g74 g75 g76 g77 g78 g79 g80 g81 g82 g83 g84 g85 g86 g87 g88 g89 g90 g91 g92 g93 g94 g95 g96 g97 g98 g99 g100 g101 g102 g103 g104 g105 g106 g107 g108 g109 g110 g111 g112 g113 g114 g115 g116 g117 g118 g119 g120 g121 g122 g123 g124 g125 g126 g127 g128 g129 g130 g131 g132 g133 g134 g135 g136 g137 g138 g139 g140 g141 g142 g143 g144 g145 g146 g147 g148 g149 g150 g151 g152 g153 g154 g155 g156 g157 g158 g159 g160 g161 g162 g163 g164 g165 g166 g167 g168 g169 g170 g171 g172 g173 g174 g175 g176 g177 g178 g179 g180 g181 g182 g183 g184 g185 g186 g187 g188 g189 g190 g191 g192 g193 g194 g195 g196 g197 g198 g199 : HV⦄, rec0 y0 y1 y5 y6 y7 S = some p → HRun Try.prog base W0 β0 3 none [.inLoop c27, .inBlock 0, .code c101] ⟨[(Sl.hv y0), (.int .i64 y1), g2, g3, g4, (.ptr y5), (.ptr y6), (.int .i64 y7), g8, g9, g10, g11, g12, g13, g14, g15, g16, g17, g18, g19, g20, g21, g22, g23, g24, g25, g26, g27, g28, g29, g30, g31, g32, g33, g34, g35, g36, g37, g38, g39, g40, g41, g42, g43, g44, g45, g46, g47, g48, g49, g50, g51, g52, g53, g54, g55, g56, g57, g58, g59, g60, g61, g62, g63, g64, g65, g66, g67, g68, g69, g70, g71, g72, g73, g74, g75, g76, g77, g78, g79, g80, g81, g82, g83, g84, g85, g86, g87, g88, g89, g90, g91, g92, g93, g94, g95, g96, g97, g98, g99, g100, g101, g102, g103, g104, g105, g106, g107, g108, g109, g110, g111, g112, g113, g114, g115, g116, g117, g118, g119, g120, g121, g122, g123, g124, g125, g126, g127, g128, g129, g130, g131, g132, g133, g134, g135, g136, g137, g138, g139, g140, g141, g142, g143, g144, g145, g146, g147, g148, g149, g150, g151, g152, g153, g154, g155, g156, g157, g158, g159, g160, g161, g162, g163, g164, g165, g166, g167, g168, g169, g170, g171, g172, g173, g174, g175, g176, g177, g178, g179, g180, g181, g182, g183, g184, g185, g186, g187, g188, g189, g190, g191, g192, g193, g194, g195, g196, g197, g198, g199], []⟩ S (fun v S1 => v = (.bool p.1) ∧ S1 = p.2)) {y0 : Sl} {y1 : Int} {y5 : (Option HA)} {y6 : (Option HA)} {y7 : Int} {y8 : (Option HA)} {S : HS} {p : (Bool) × HS} {g2 g3 g4 g9 g10 g11 g12 g13 g14 g15 g16 g17 g18 g19 g20 g21 g22 g23 g24 g25 g26 g27 g28 g29 g30 g31 g32 g33 g34 g35 g36 g37 g38 g39 g40 g41 g42 g43 g44 g45 g46 g47 g48 g49 g50 g51 g52 g53 g54 g55 g56 g57 g58 g59 g60 g61 g62 g63 g64 g65 g66 g67 g68 g69 g70 g71 g72 g73 g74 g75 g76 g77 g78 g79 g80 g81 g82 g83 g84 g85 g86 g87 g88 g89 g90 g91 g92 g93 g94 g95 g96 g97 g98 g99 g100 g101 g102 g103 g104 g105 g106 g107 g108 g109 g110 g111 g112 g113 g114 g115 g116 g117 g118 g119 g120 g121 g122 g123 g124 g125 g126 g127 g128 g129 g130 g131 g132 g133 g134 g135 g136 g137 g138 g139 g140 g141 g142 g143 g144 g145 g146 g147 g148 g149 g150 g151 g152 g153 g154 g155 g156 g157 g158 g159 g160 g161 g162 g163 g164 g165 g166 g167 g168 g169 g170 g171 g172 g173 g174 g175 g176 g177 g178 g179 g180 g181 g182 g183 g184 g185 g186 g187 g188 g189 g190 g191 g192 g193 g194 g195 g196 g197 g198 g199 : HV} (h : J1 D H k rec0 y0 y1 y5 y6 y7 y8 S = some p) : HRun Try.prog base W0 β0 3 none [.code c89, .inBlock 1, .code c100, .inLoop c27, .inBlock 0, .code c101] ⟨[(Sl.hv y0), (.int .i64 y1), g2, g3, g4, (.ptr y5), (.ptr y6), (.int .i64 y7), (.ptr y8), g9, g10, g11, g12, g13, g14, g15, g16, g17, g18, g19, g20, g21, g22, g23, g24, g25, g26, g27, g28, g29, g30, g31, g32, g33, g34, g35, g36, g37, g38, g39, g40, g41, g42, g43, g44, g45, g46, g47, g48, g49, g50, g51, g52, g53, g54, g55, g56, g57, g58, g59, g60, g61, g62, g63, g64, g65, g66, g67, g68, g69, g70, g71, g72, g73, g74, g75, g76, g77, g78, g79, g80, g81, g82, g83, g84, g85, g86, g87, g88, g89, g90, g91, g92, g93, g94, g95, g96, g97, g98, g99, g100, g101, g102, g103, g104, g105, g106, g107, g108, g109, g110, g111, g112, g113, g114, g115, g116, g117, g118, g119, g120, g121, g122, g123, g124, g125, g126, g127, g128, g129, g130, g131, g132, g133, g134, g135, g136, g137, g138, g139, g140, g141, g142, g143, g144, g145, g146, g147, g148, g149, g150, g151, g152, g153, g154, g155, g156, g157, g158, g159, g160, g161, g162, g163, g164, g165, g166, g167, g168, g169, g170, g171, g172, g173, g174, g175, g176, g177, g178, g179, g180, g181, g182, g183, g184, g185, g186, g187, g188, g189, g190, g191, g192, g193, g194, g195, g196, g197, g198, g199], []⟩ S (fun v S1 => v = (.bool p.1) ∧ S1 = p.2) := by
  unfold J1 at h
  refine q_seq e89 ?_
  refine q_region e90 rfl ?_
  refine q_op (dst := some 100) rfl (fun _ ho => ok_move ho (.tmp rfl)) ?_
  obtain ⟨p23, hp23, h⟩ := bindo h
  refine q_op (dst := some 101) rfl (fun _ ho => ok_fieldAddr_s ho fi32_1 (by decide) (.tmp rfl) hp23) ?_
  obtain ⟨p24, hp24, h⟩ := bindo h
  refine q_op (dst := some 102) rfl (fun _ ho => ok_load_s ho sc9 (.tmp rfl) rfl (ldS_out hp24)) ?_
  obtain ⟨p25, hp25, h⟩ := bindo h
  refine q_call (dst := some 103) rfl (.func _) (.cons (.tmp rfl) (.cons (.tmp rfl) Evs.nil)) (HInv.static timer_Table_string_At.at_ timer_Table_string_At.body (timer_Table_string_At.snd  hp25)) ?_
  rintro _ _ ⟨rfl, rfl⟩
  try dsimp only [HAct.put, List.set_cons_zero, List.set_cons_succ]
  refine q_op (dst := some 99) rfl (fun _ ho => ok_move ho (.tmp rfl)) ?_
  refine q_op (dst := some 104) rfl (fun _ ho => ok_extract ho (.tmp rfl) rfl) ?_
  refine q_op (dst := some 105) rfl (fun _ ho => ok_extract ho (.tmp rfl) rfl) ?_
  refine q_op (dst := some 12) rfl (fun _ ho => ok_assign ho (.tmp rfl)) ?_
  try dsimp only [HAct.put, List.set_cons_zero, List.set_cons_succ]
  refine q_op (dst := some 13) rfl (fun _ ho => ok_assign ho (.tmp rfl)) ?_
  refine hr_region_end ?_
  try dsimp only [HAct.put, List.set_cons_zero, List.set_cons_succ]
  refine q_seq e91 ?_
  refine q_region e92 rfl ?_
  refine q_op (dst := some 106) rfl (fun _ ho => ok_move ho (.tmp rfl)) ?_
  obtain ⟨p26, hp26, h⟩ := bindo h
  refine q_op (dst := some 107) rfl (fun _ ho => ok_fieldAddr_s ho fi32_1 (by decide) (.tmp rfl) hp26) ?_
  obtain ⟨p27, hp27, h⟩ := bindo h
  refine q_op (dst := some 108) rfl (fun _ ho => ok_load_s ho sc9 (.tmp rfl) rfl (ldS_out hp27)) ?_
  obtain ⟨p28, hp28, h⟩ := bindo h
  refine q_call (dst := some 109) rfl (.func _) (.cons (.tmp rfl) (.cons (.tmp rfl) Evs.nil)) (HInv.static rollcallref09_Table_At.at_ rollcallref09_Table_At.body (rollcallref09_Table_At.snd  hp28)) ?_
  rintro _ _ ⟨rfl, rfl⟩
  try dsimp only [HAct.put, List.set_cons_zero, List.set_cons_succ]
  refine q_op (dst := some 14) rfl (fun _ ho => ok_assign ho (.tmp rfl)) ?_
  refine hr_region_end ?_
  try dsimp only [HAct.put, List.set_cons_zero, List.set_cons_succ]
  refine q_seq e93 ?_
  refine x_start (cls := [0, 2, 0, 0, 0, 3, 0, 0, 0, 0, 0, 0, 0, 0, 0, 0, 0, 0, 0, 0, 0, 1, 0, 1, 0, 1, 0, 0, 0, 0, 0, 0, 0, 0, 0, 0, 0, 0, 0, 0, 0, 2, 0, 2, 0, 0]) (rk := [0, 1, 2, 3, 4, 5, 6, 7, 8, 9, 10, 11, 12, 13, 14, 15, 16, 17, 18, 19, 20, 21, 22, 23, 24, 25, 26, 27, 28, 29, 30, 31, 32, 33, 34, 35, 36, 37, 38, 39, 40, 41, 42, 43, 44, 45]) e94 (by kernel_rfl) ?_
  refine x_goP (f_op (dst := some 110) (ts := [5]) rfl (by intro _ _ h; cases h) (by kernel_rfl) (fun _ _ ho => ok_move ho (.tmp rfl))) rfl (by decide) (by decide) ?_
  obtain ⟨p29, hp29, h⟩ := bindo h
  refine x_goE (e_call (dst := some 111) (ts := [110]) rfl (by kernel_rfl) (.func _) (.cons (.tmp rfl) Evs.nil) (HInv.static timer_Table_string_Len.at_ timer_Table_string_Len.body (timer_Table_string_Len.snd  hp29))) rfl trivial ?_
  refine x_goP (f_op (dst := some 112) (ts := [6]) rfl (by intro _ _ h; cases h) (by kernel_rfl) (fun _ _ ho => ok_move ho (.tmp rfl))) rfl (by decide) (by decide) ?_
  obtain ⟨p30, hp30, h⟩ := bindo h
  refine x_goP (f_op (dst := some 113) (ts := [112]) rfl (by intro _ _ h; cases h) (by kernel_rfl) (fun _ _ ho => ok_nilCheck_p ho (.tmp rfl) hp30)) rfl (by decide) (by decide) ?_
  try dsimp only [HAct.put, List.set_cons_zero, List.set_cons_succ]
  refine x_goP (f_op (dst := some 114) (ts := [113]) rfl (by intro _ _ h; cases h) (by kernel_rfl) (fun _ _ ho => ok_fieldAddr_s ho fi30_0 (by decide) (.tmp rfl) rfl)) rfl (by decide) (by decide) ?_
  obtain ⟨p31, hp31, h⟩ := bindo h
  obtain ⟨p32, hp32, h⟩ := bindo h
  obtain ⟨hg33, h⟩ := gd h
  refine x_late (r_op (dst := some 115) (ts := [114]) rfl (by intro _ _ h; cases h) (by kernel_rfl) (fun _ ho => ok_load_s ho sc28 (.tmp rfl) rfl (ldSl_out hp31))) rfl ⟨.inr (l_op (dst := some 115) (ts := [114]) rfl (by intro _ _ h; cases h) (by kernel_rfl) (fun _ ho => ok_load_s ho sc28 (.tmp rfl) rfl (ldSl_out (hp32.trans (congrArg some hg33))))), trivial⟩ ?_
  refine x_goP (f_op (dst := some 116) (ts := [115]) rfl (by intro _ _ h; cases h) (by kernel_rfl) (fun _ _ ho => ok_len_sl (q := Sl.a p31) (n := Sl.len p31) (z := Sl.cap p31) ho rfl tu28 (.tmp rfl))) rfl (by decide) (by decide) ?_
  refine x_goP (f_op (dst := some 117) (ts := [111, 116]) rfl (by intro _ _ h; cases h) (by kernel_rfl) (fun _ _ ho => ok_ibin ho (.tmp rfl) (.tmp rfl) rfl)) rfl (by decide) (by decide) ?_
  try dsimp only [HAct.put, List.set_cons_zero, List.set_cons_succ]
  refine x_goP (f_op (dst := some 118) (ts := [117]) rfl (by intro _ _ h; cases h) (by kernel_rfl) (fun _ _ ho => ok_move ho (.tmp rfl))) rfl (by decide) (by decide) ?_
  rcases ifc h with ⟨hc34, h⟩ | ⟨hc34, h⟩
  · refine x_goP (f_skip (dst := some 119) (t := 118) (ts := [13, 118]) rfl (by kernel_rfl) rfl rfl hc34) rfl (by decide) (by decide) ?_
    refine x_goP (f_skip (dst := some 120) (t := 118) (ts := [14, 118]) rfl (by kernel_rfl) rfl rfl hc34) rfl (by decide) (by decide) ?_
    refine x_goP (f_skip (dst := some 121) (t := 118) (ts := [120, 118]) rfl (by kernel_rfl) rfl rfl hc34) rfl (by decide) (by decide) ?_
    try dsimp only [HAct.put, List.set_cons_zero, List.set_cons_succ]
    refine x_goP (f_skip (dst := some 122) (t := 118) (ts := [119, 121, 118]) rfl (by kernel_rfl) rfl rfl hc34) rfl (by decide) (by decide) ?_
    refine x_goP (f_op (dst := some 123) (ts := [118, 122]) rfl (by intro _ _ h; cases h) (by kernel_rfl) (fun _ _ ho => ok_pick_tt ho (.tmp rfl) hc34 (.bool _))) rfl (by decide) (by decide) ?_
    refine x_goP (f_op (dst := some 124) (ts := [123]) rfl (by intro _ _ h; cases h) (by kernel_rfl) (fun _ _ ho => ok_move ho (.tmp rfl))) rfl (by decide) (by decide) ?_
    refine x_goP (f_skip (dst := some 125) (t := 124) (ts := [13, 124]) rfl (by kernel_rfl) rfl rfl rfl) rfl (by decide) (by decide) ?_
    try dsimp only [HAct.put, List.set_cons_zero, List.set_cons_succ]
    refine x_goP (f_skip (dst := some 126) (t := 124) (ts := [125, 124]) rfl (by kernel_rfl) rfl rfl rfl) rfl (by decide) (by decide) ?_
    refine x_goP (f_skip_u (dst := some 127) (t := 126) (ts := [12, 126]) rfl (by kernel_rfl) rfl rfl) rfl (by decide) (by decide) ?_
    refine x_goP (f_skip_u (dst := some 128) (t := 126) (ts := [6, 126]) rfl (by kernel_rfl) rfl rfl) rfl (by decide) (by decide) ?_
    refine x_goP (f_skip_u (dst := some 129) (t := 126) (ts := [128, 126]) rfl (by kernel_rfl) rfl rfl) rfl (by decide) (by decide) ?_
    try dsimp only [HAct.put, List.set_cons_zero, List.set_cons_succ]
    refine x_goP (f_skip_u (dst := some 130) (t := 126) (ts := [129, 126]) rfl (by kernel_rfl) rfl rfl) rfl (by decide) (by decide) ?_
    refine x_goP (r_skip_u (dst := some 131) (t := 126) (ts := [130, 126]) rfl (by kernel_rfl) rfl rfl) rfl (by decide) (by decide) ?_
    refine x_goP (f_skip_u (dst := some 132) (t := 126) (ts := [14, 126]) rfl (by kernel_rfl) rfl rfl) rfl (by decide) (by decide) ?_
    refine x_goP (r_skip_u (dst := some 133) (t := 126) (ts := [131, 132, 126]) rfl (by kernel_rfl) rfl rfl) rfl (by decide) (by decide) ?_
    try dsimp only [HAct.put, List.set_cons_zero, List.set_cons_succ]
    refine x_goP (f_skip_u (dst := some 134) (t := 126) (ts := [133, 126]) rfl (by kernel_rfl) rfl rfl) rfl (by decide) (by decide) ?_
    refine x_goP (r_skip_u (dst := some 135) (t := 126) (ts := [134, 126]) rfl (by kernel_rfl) rfl rfl) rfl (by decide) (by decide) ?_
    refine x_goP (f_skip_u (dst := some 136) (t := 126) (ts := [127, 135, 126]) rfl (by kernel_rfl) rfl rfl) rfl (by decide) (by decide) ?_
    refine x_goP (f_skip (dst := some 137) (t := 124) (ts := [126, 136, 124]) rfl (by kernel_rfl) rfl rfl rfl) rfl (by decide) (by decide) ?_
    try dsimp only [HAct.put, List.set_cons_zero, List.set_cons_succ]
    refine x_goP (f_op (dst := some 138) (ts := [124, 137]) rfl (by intro _ _ h; cases h) (by kernel_rfl) (fun _ _ ho => ok_pick_tt ho (.tmp rfl) rfl (.bool _))) rfl (by decide) (by decide) ?_
    refine x_goP (f_op (dst := some 139) (ts := [138]) rfl (by intro _ _ h; cases h) (by kernel_rfl) (fun _ _ ho => ok_move ho (.tmp rfl))) rfl (by decide) (by decide) ?_
    refine x_goP (f_skip (dst := some 140) (t := 139) (ts := [13, 139]) rfl (by kernel_rfl) rfl rfl rfl) rfl (by decide) (by decide) ?_
    refine x_goP (f_skip (dst := some 141) (t := 139) (ts := [140, 139]) rfl (by kernel_rfl) rfl rfl rfl) rfl (by decide) (by decide) ?_
    try dsimp only [HAct.put, List.set_cons_zero, List.set_cons_succ]
    refine x_goP (f_skip (dst := some 142) (t := 139) (ts := [141, 139]) rfl (by kernel_rfl) rfl rfl rfl) rfl (by decide) (by decide) ?_
    refine x_goP (f_skip_u (dst := some 143) (t := 142) (ts := [12, 142]) rfl (by kernel_rfl) rfl rfl) rfl (by decide) (by decide) ?_
    refine x_goP (f_skip_u (dst := some 144) (t := 142) (ts := [143, 142]) rfl (by kernel_rfl) rfl rfl) rfl (by decide) (by decide) ?_
    refine x_goP (f_skip (dst := some 145) (t := 139) (ts := [142, 144, 139]) rfl (by kernel_rfl) rfl rfl rfl) rfl (by decide) (by decide) ?_
    try dsimp only [HAct.put, List.set_cons_zero, List.set_cons_succ]
    refine x_goP (f_op (dst := some 146) (ts := [139, 145]) rfl (by intro _ _ h; cases h) (by kernel_rfl) (fun _ _ ho => ok_pick_tt ho (.tmp rfl) rfl (.bool _))) rfl (by decide) (by decide) ?_
    refine x_goP (f_op (dst := some 147) (ts := [146]) rfl (by intro _ _ h; cases h) (by kernel_rfl) (fun _ _ ho => ok_move ho (.tmp rfl))) rfl (by decide) (by decide) ?_
    refine x_goP (f_skip (dst := some 148) (t := 147) (ts := [5, 147]) rfl (by kernel_rfl) rfl rfl rfl) rfl (by decide) (by decide) ?_
    refine x_goP (f_skip (dst := some 149) (t := 147) (ts := [6, 147]) rfl (by kernel_rfl) rfl rfl rfl) rfl (by decide) (by decide) ?_
    try dsimp only [HAct.put, List.set_cons_zero, List.set_cons_succ]
    refine x_goP (f_skip (dst := some 150) (t := 147) (ts := [1, 147]) rfl (by kernel_rfl) rfl rfl rfl) rfl (by decide) (by decide) ?_
    refine x_goE (e_skip (dst := some 151) (t := 147) (ts := [149, 150, 147]) rfl (by kernel_rfl) rfl rfl rfl) rfl ⟨.inl (by kernel_rfl), trivial⟩ ?_
    refine x_goP (f_skip (dst := some 152) (t := 147) (ts := [1, 147]) rfl (by kernel_rfl) rfl rfl rfl) rfl (by decide) (by decide) ?_
    refine x_goE (e_skip (dst := some 153) (t := 147) (ts := [148, 151, 152, 147]) rfl (by kernel_rfl) rfl rfl rfl) rfl ⟨.inl (by kernel_rfl), trivial⟩ ?_
    try dsimp only [HAct.put, List.set_cons_zero, List.set_cons_succ]
    refine x_goP (f_skip (dst := some 154) (t := 147) (ts := [153, 147]) rfl (by kernel_rfl) rfl rfl rfl) rfl (by decide) (by decide) ?_
    refine x_goP (f_op (dst := some 155) (ts := [147, 154]) rfl (by intro _ _ h; cases h) (by kernel_rfl) (fun _ _ ho => ok_pick_tt ho (.tmp rfl) rfl (.bool _))) rfl (by decide) (by decide) ?_
    refine x_rest rfl ?_
    refine hr_region_end ?_
    try dsimp only [HAct.put, List.set_cons_zero, List.set_cons_succ]
    try dsimp only [HAct.put, List.set_cons_zero, List.set_cons_succ]
    exact J2_snd hD hH hrec0 h
  · refine x_goP (f_op_g (dst := some 119) (t := 118) (ts := [13, 118]) rfl (by intro _ _ h; cases h) (by kernel_rfl) rfl rfl (bfalse hc34) (fun _ _ ho => ok_move ho (.tmp rfl))) rfl (by decide) (by decide) ?_
    refine x_goP (f_op_g (dst := some 120) (t := 118) (ts := [14, 118]) rfl (by intro _ _ h; cases h) (by kernel_rfl) rfl rfl (bfalse hc34) (fun _ _ ho => ok_move ho (.tmp rfl))) rfl (by decide) (by decide) ?_
    refine x_goP (f_op_g (dst := some 121) (t := 118) (ts := [120, 118]) rfl (by intro _ _ h; cases h) (by kernel_rfl) rfl rfl (bfalse hc34) (fun _ _ ho => ok_ibin ho (.tmp rfl) (.int _ _) rfl)) rfl (by decide) (by decide) ?_
    try dsimp only [HAct.put, List.set_cons_zero, List.set_cons_succ]
    refine x_goP (f_op_g (dst := some 122) (t := 118) (ts := [119, 121, 118]) rfl (by intro _ _ h; cases h) (by kernel_rfl) rfl rfl (bfalse hc34) (fun _ _ ho => ok_beq ho tu4 (.inr ⟨rfl, rfl⟩) (.tmp rfl) (.tmp rfl))) rfl (by decide) (by decide) ?_
    refine x_goP (f_op (dst := some 123) (ts := [118, 122]) rfl (by intro _ _ h; cases h) (by kernel_rfl) (fun _ _ ho => ok_pick_ff ho (.tmp rfl) (bfalse hc34) (.tmp rfl))) rfl (by decide) (by decide) ?_
    refine x_goP (f_op (dst := some 124) (ts := [123]) rfl (by intro _ _ h; cases h) (by kernel_rfl) (fun _ _ ho => ok_move ho (.tmp rfl))) rfl (by decide) (by decide) ?_
    rcases ifc h with ⟨hc36, h⟩ | ⟨hc36, h⟩
    · refine x_goP (f_skip (dst := some 125) (t := 124) (ts := [13, 124]) rfl (by kernel_rfl) rfl rfl hc36) rfl (by decide) (by decide) ?_
      try dsimp only [HAct.put, List.set_cons_zero, List.set_cons_succ]
      refine x_goP (f_skip (dst := some 126) (t := 124) (ts := [125, 124]) rfl (by kernel_rfl) rfl rfl hc36) rfl (by decide) (by decide) ?_
      refine x_goP (f_skip_u (dst := some 127) (t := 126) (ts := [12, 126]) rfl (by kernel_rfl) rfl rfl) rfl (by decide) (by decide) ?_
      refine x_goP (f_skip_u (dst := some 128) (t := 126) (ts := [6, 126]) rfl (by kernel_rfl) rfl rfl) rfl (by decide) (by decide) ?_
      refine x_goP (f_skip_u (dst := some 129) (t := 126) (ts := [128, 126]) rfl (by kernel_rfl) rfl rfl) rfl (by decide) (by decide) ?_
      try dsimp only [HAct.put, List.set_cons_zero, List.set_cons_succ]
      refine x_goP (f_skip_u (dst := some 130) (t := 126) (ts := [129, 126]) rfl (by kernel_rfl) rfl rfl) rfl (by decide) (by decide) ?_
      refine x_goP (r_skip_u (dst := some 131) (t := 126) (ts := [130, 126]) rfl (by kernel_rfl) rfl rfl) rfl (by decide) (by decide) ?_
      refine x_goP (f_skip_u (dst := some 132) (t := 126) (ts := [14, 126]) rfl (by kernel_rfl) rfl rfl) rfl (by decide) (by decide) ?_
      refine x_goP (r_skip_u (dst := some 133) (t := 126) (ts := [131, 132, 126]) rfl (by kernel_rfl) rfl rfl) rfl (by decide) (by decide) ?_
      try dsimp only [HAct.put, List.set_cons_zero, List.set_cons_succ]
      refine x_goP (f_skip_u (dst := some 134) (t := 126) (ts := [133, 126]) rfl (by kernel_rfl) rfl rfl) rfl (by decide) (by decide) ?_
      refine x_goP (r_skip_u (dst := some 135) (t := 126) (ts := [134, 126]) rfl (by kernel_rfl) rfl rfl) rfl (by decide) (by decide) ?_
      refine x_goP (f_skip_u (dst := some 136) (t := 126) (ts := [127, 135, 126]) rfl (by kernel_rfl) rfl rfl) rfl (by decide) (by decide) ?_
      refine x_goP (f_skip (dst := some 137) (t := 124) (ts := [126, 136, 124]) rfl (by kernel_rfl) rfl rfl hc36) rfl (by decide) (by decide) ?_
      try dsimp only [HAct.put, List.set_cons_zero, List.set_cons_succ]
      refine x_goP (f_op (dst := some 138) (ts := [124, 137]) rfl (by intro _ _ h; cases h) (by kernel_rfl) (fun _ _ ho => ok_pick_tt ho (.tmp rfl) hc36 (.bool _))) rfl (by decide) (by decide) ?_
      refine x_goP (f_op (dst := some 139) (ts := [138]) rfl (by intro _ _ h; cases h) (by kernel_rfl) (fun _ _ ho => ok_move ho (.tmp rfl))) rfl (by decide) (by decide) ?_
      refine x_goP (f_skip (dst := some 140) (t := 139) (ts := [13, 139]) rfl (by kernel_rfl) rfl rfl rfl) rfl (by decide) (by decide) ?_
      refine x_goP (f_skip (dst := some 141) (t := 139) (ts := [140, 139]) rfl (by kernel_rfl) rfl rfl rfl) rfl (by decide) (by decide) ?_
      try dsimp only [HAct.put, List.set_cons_zero, List.set_cons_succ]
      refine x_goP (f_skip (dst := some 142) (t := 139) (ts := [141, 139]) rfl (by kernel_rfl) rfl rfl rfl) rfl (by decide) (by decide) ?_
      refine x_goP (f_skip_u (dst := some 143) (t := 142) (ts := [12, 142]) rfl (by kernel_rfl) rfl rfl) rfl (by decide) (by decide) ?_
      refine x_goP (f_skip_u (dst := some 144) (t := 142) (ts := [143, 142]) rfl (by kernel_rfl) rfl rfl) rfl (by decide) (by decide) ?_
      refine x_goP (f_skip (dst := some 145) (t := 139) (ts := [142, 144, 139]) rfl (by kernel_rfl) rfl rfl rfl) rfl (by decide) (by decide) ?_
      try dsimp only [HAct.put, List.set_cons_zero, List.set_cons_succ]
      refine x_goP (f_op (dst := some 146) (ts := [139, 145]) rfl (by intro _ _ h; cases h) (by kernel_rfl) (fun _ _ ho => ok_pick_tt ho (.tmp rfl) rfl (.bool _))) rfl (by decide) (by decide) ?_
      refine x_goP (f_op (dst := some 147) (ts := [146]) rfl (by intro _ _ h; cases h) (by kernel_rfl) (fun _ _ ho => ok_move ho (.tmp rfl))) rfl (by decide) (by decide) ?_
      refine x_goP (f_skip (dst := some 148) (t := 147) (ts := [5, 147]) rfl (by kernel_rfl) rfl rfl rfl) rfl (by decide) (by decide) ?_
      refine x_goP (f_skip (dst := some 149) (t := 147) (ts := [6, 147]) rfl (by kernel_rfl) rfl rfl rfl) rfl (by decide) (by decide) ?_
      try dsimp only [HAct.put, List.set_cons_zero, List.set_cons_succ]
      refine x_goP (f_skip (dst := some 150) (t := 147) (ts := [1, 147]) rfl (by kernel_rfl) rfl rfl rfl) rfl (by decide) (by decide) ?_
      refine x_goE (e_skip (dst := some 151) (t := 147) (ts := [149, 150, 147]) rfl (by kernel_rfl) rfl rfl rfl) rfl ⟨.inl (by kernel_rfl), trivial⟩ ?_
      refine x_goP (f_skip (dst := some 152) (t := 147) (ts := [1, 147]) rfl (by kernel_rfl) rfl rfl rfl) rfl (by decide) (by decide) ?_
      refine x_goE (e_skip (dst := some 153) (t := 147) (ts := [148, 151, 152, 147]) rfl (by kernel_rfl) rfl rfl rfl) rfl ⟨.inl (by kernel_rfl), trivial⟩ ?_
      try dsimp only [HAct.put, List.set_cons_zero, List.set_cons_succ]
      refine x_goP (f_skip (dst := some 154) (t := 147) (ts := [153, 147]) rfl (by kernel_rfl) rfl rfl rfl) rfl (by decide) (by decide) ?_
      refine x_goP (f_op (dst := some 155) (ts := [147, 154]) rfl (by intro _ _ h; cases h) (by kernel_rfl) (fun _ _ ho => ok_pick_tt ho (.tmp rfl) rfl (.bool _))) rfl (by decide) (by decide) ?_
      refine x_rest rfl ?_
      refine hr_region_end ?_
      try dsimp only [HAct.put, List.set_cons_zero, List.set_cons_succ]
      try dsimp only [HAct.put, List.set_cons_zero, List.set_cons_succ]
      exact J2_snd hD hH hrec0 h
    · refine x_goP (f_op_g (dst := some 125) (t := 124) (ts := [13, 124]) rfl (by intro _ _ h; cases h) (by kernel_rfl) rfl rfl (bfalse hc36) (fun _ _ ho => ok_move ho (.tmp rfl))) rfl (by decide) (by decide) ?_
      try dsimp only [HAct.put, List.set_cons_zero, List.set_cons_succ]
      refine x_goP (f_op_g (dst := some 126) (t := 124) (ts := [125, 124]) rfl (by intro _ _ h; cases h) (by kernel_rfl) rfl rfl (bfalse hc36) (fun _ _ ho => ok_move ho (.tmp rfl))) rfl (by decide) (by decide) ?_
      rcases ifc h with ⟨hc37, h⟩ | ⟨hc37, h⟩
      · refine x_goP (f_op_g (dst := some 127) (t := 126) (ts := [12, 126]) rfl (by intro _ _ h; cases h) (by kernel_rfl) rfl rfl hc37 (fun _ _ ho => ok_move ho (.tmp rfl))) rfl (by decide) (by decide) ?_
        refine x_goP (f_op_g (dst := some 128) (t := 126) (ts := [6, 126]) rfl (by intro _ _ h; cases h) (by kernel_rfl) rfl rfl hc37 (fun _ _ ho => ok_move ho (.tmp rfl))) rfl (by decide) (by decide) ?_
        obtain ⟨p38, hp38, h⟩ := bindo h
        refine x_goP (f_op_g (dst := some 129) (t := 126) (ts := [128, 126]) rfl (by intro _ _ h; cases h) (by kernel_rfl) rfl rfl hc37 (fun _ _ ho => ok_nilCheck_p ho (.tmp rfl) hp38)) rfl (by decide) (by decide) ?_
        try dsimp only [HAct.put, List.set_cons_zero, List.set_cons_succ]
        refine x_goP (f_op_g (dst := some 130) (t := 126) (ts := [129, 126]) rfl (by intro _ _ h; cases h) (by kernel_rfl) rfl rfl hc37 (fun _ _ ho => ok_fieldAddr_s ho fi30_0 (by decide) (.tmp rfl) rfl)) rfl (by decide) (by decide) ?_
        obtain ⟨p39, hp39, h⟩ := bindo h
        refine x_goP (r_op_g (dst := some 131) (t := 126) (ts := [130, 126]) rfl (by intro _ _ h; cases h) (by kernel_rfl) rfl rfl hc37 (fun _ ho => ok_load_s ho sc28 (.tmp rfl) rfl (ldSl_out hp39))) rfl (by decide) (by decide) ?_
        refine x_goP (f_op_g (dst := some 132) (t := 126) (ts := [14, 126]) rfl (by intro _ _ h; cases h) (by kernel_rfl) rfl rfl hc37 (fun _ _ ho => ok_move ho (.tmp rfl))) rfl (by decide) (by decide) ?_
        obtain ⟨p40, hp40, h⟩ := bindo h
        refine x_goP (r_op_g (dst := some 133) (t := 126) (ts := [131, 132, 126]) rfl (by intro _ _ h; cases h) (by kernel_rfl) rfl rfl hc37 (fun _ ho => ok_indexAddr (s := p39) ho tu28 sz38 (.tmp rfl) (.tmp rfl) hp40)) rfl (by decide) (by decide) ?_
        try dsimp only [HAct.put, List.set_cons_zero, List.set_cons_succ]
        refine x_goP (f_op_g (dst := some 134) (t := 126) (ts := [133, 126]) rfl (by intro _ _ h; cases h) (by kernel_rfl) rfl rfl hc37 (fun _ _ ho => ok_fieldAddr_s ho fi38_1 (by decide) (.tmp rfl) rfl)) rfl (by decide) (by decide) ?_
        obtain ⟨p41, hp41, h⟩ := bindo h
        refine x_goP (r_op_g (dst := some 135) (t := 126) (ts := [134, 126]) rfl (by intro _ _ h; cases h) (by kernel_rfl) rfl rfl hc37 (fun _ ho => ok_load_s ho sc3 (.tmp rfl) rfl (ldI_out hp41))) rfl (by decide) (by decide) ?_
        refine x_goP (f_op_g (dst := some 136) (t := 126) (ts := [127, 135, 126]) rfl (by intro _ _ h; cases h) (by kernel_rfl) rfl rfl hc37 (fun _ _ ho => ok_ibin ho (.tmp rfl) (.tmp rfl) rfl)) rfl (by decide) (by decide) ?_
        refine x_goP (f_op_g (dst := some 137) (t := 124) (ts := [126, 136, 124]) rfl (by intro _ _ h; cases h) (by kernel_rfl) rfl rfl (bfalse hc36) (fun _ _ ho => ok_pick_tt ho (.tmp rfl) hc37 (.tmp rfl))) rfl (by decide) (by decide) ?_
        try dsimp only [HAct.put, List.set_cons_zero, List.set_cons_succ]
        refine x_goP (f_op (dst := some 138) (ts := [124, 137]) rfl (by intro _ _ h; cases h) (by kernel_rfl) (fun _ _ ho => ok_pick_ff ho (.tmp rfl) (bfalse hc36) (.tmp rfl))) rfl (by decide) (by decide) ?_
        refine x_goP (f_op (dst := some 139) (ts := [138]) rfl (by intro _ _ h; cases h) (by kernel_rfl) (fun _ _ ho => ok_move ho (.tmp rfl))) rfl (by decide) (by decide) ?_
        rcases ifc h with ⟨hc42, h⟩ | ⟨hc42, h⟩
        · refine x_goP (f_skip (dst := some 140) (t := 139) (ts := [13, 139]) rfl (by kernel_rfl) rfl rfl hc42) rfl (by decide) (by decide) ?_
          refine x_goP (f_skip (dst := some 141) (t := 139) (ts := [140, 139]) rfl (by kernel_rfl) rfl rfl hc42) rfl (by decide) (by decide) ?_
          try dsimp only [HAct.put, List.set_cons_zero, List.set_cons_succ]
          refine x_goP (f_skip (dst := some 142) (t := 139) (ts := [141, 139]) rfl (by kernel_rfl) rfl rfl hc42) rfl (by decide) (by decide) ?_
          refine x_goP (f_skip_u (dst := some 143) (t := 142) (ts := [12, 142]) rfl (by kernel_rfl) rfl rfl) rfl (by decide) (by decide) ?_
          refine x_goP (f_skip_u (dst := some 144) (t := 142) (ts := [143, 142]) rfl (by kernel_rfl) rfl rfl) rfl (by decide) (by decide) ?_
          refine x_goP (f_skip (dst := some 145) (t := 139) (ts := [142, 144, 139]) rfl (by kernel_rfl) rfl rfl hc42) rfl (by decide) (by decide) ?_
          try dsimp only [HAct.put, List.set_cons_zero, List.set_cons_succ]
          refine x_goP (f_op (dst := some 146) (ts := [139, 145]) rfl (by intro _ _ h; cases h) (by kernel_rfl) (fun _ _ ho => ok_pick_tt ho (.tmp rfl) hc42 (.bool _))) rfl (by decide) (by decide) ?_
          refine x_goP (f_op (dst := some 147) (ts := [146]) rfl (by intro _ _ h; cases h) (by kernel_rfl) (fun _ _ ho => ok_move ho (.tmp rfl))) rfl (by decide) (by decide) ?_
          refine x_goP (f_skip (dst := some 148) (t := 147) (ts := [5, 147]) rfl (by kernel_rfl) rfl rfl rfl) rfl (by decide) (by decide) ?_
          refine x_goP (f_skip (dst := some 149) (t := 147) (ts := [6, 147]) rfl (by kernel_rfl) rfl rfl rfl) rfl (by decide) (by decide) ?_
          try dsimp only [HAct.put, List.set_cons_zero, List.set_cons_succ]
          refine x_goP (f_skip (dst := some 150) (t := 147) (ts := [1, 147]) rfl (by kernel_rfl) rfl rfl rfl) rfl (by decide) (by decide) ?_
          refine x_goE (e_skip (dst := some 151) (t := 147) (ts := [149, 150, 147]) rfl (by kernel_rfl) rfl rfl rfl) rfl ⟨.inl (by kernel_rfl), trivial⟩ ?_
          refine x_goP (f_skip (dst := some 152) (t := 147) (ts := [1, 147]) rfl (by kernel_rfl) rfl rfl rfl) rfl (by decide) (by decide) ?_
          refine x_goE (e_skip (dst := some 153) (t := 147) (ts := [148, 151, 152, 147]) rfl (by kernel_rfl) rfl rfl rfl) rfl ⟨.inl (by kernel_rfl), trivial⟩ ?_
          try dsimp only [HAct.put, List.set_cons_zero, List.set_cons_succ]
          refine x_goP (f_skip (dst := some 154) (t := 147) (ts := [153, 147]) rfl (by kernel_rfl) rfl rfl rfl) rfl (by decide) (by decide) ?_
          refine x_goP (f_op (dst := some 155) (ts := [147, 154]) rfl (by intro _ _ h; cases h) (by kernel_rfl) (fun _ _ ho => ok_pick_tt ho (.tmp rfl) rfl (.bool _))) rfl (by decide) (by decide) ?_
          refine x_rest rfl ?_
          refine hr_region_end ?_
          try dsimp only [HAct.put, List.set_cons_zero, List.set_cons_succ]
          try dsimp only [HAct.put, List.set_cons_zero, List.set_cons_succ]
          exact J2_snd hD hH hrec0 h
        · refine x_goP (f_op_g (dst := some 140) (t := 139) (ts := [13, 139]) rfl (by intro _ _ h; cases h) (by kernel_rfl) rfl rfl (bfalse hc42) (fun _ _ ho => ok_move ho (.tmp rfl))) rfl (by decide) (by decide) ?_
          refine x_goP (f_op_g (dst := some 141) (t := 139) (ts := [140, 139]) rfl (by intro _ _ h; cases h) (by kernel_rfl) rfl rfl (bfalse hc42) (fun _ _ ho => ok_not ho (.tmp rfl))) rfl (by decide) (by decide) ?_
          try dsimp only [HAct.put, List.set_cons_zero, List.set_cons_succ]
          refine x_goP (f_op_g (dst := some 142) (t := 139) (ts := [141, 139]) rfl (by intro _ _ h; cases h) (by kernel_rfl) rfl rfl (bfalse hc42) (fun _ _ ho => ok_move ho (.tmp rfl))) rfl (by decide) (by decide) ?_
          rcases ifc h with ⟨hc43, h⟩ | ⟨hc43, h⟩
          · refine x_goP (f_op_g (dst := some 143) (t := 142) (ts := [12, 142]) rfl (by intro _ _ h; cases h) (by kernel_rfl) rfl rfl hc43 (fun _ _ ho => ok_move ho (.tmp rfl))) rfl (by decide) (by decide) ?_
            refine x_goP (f_op_g (dst := some 144) (t := 142) (ts := [143, 142]) rfl (by intro _ _ h; cases h) (by kernel_rfl) rfl rfl hc43 (fun _ _ ho => ok_ibin ho (.tmp rfl) (.int _ _) rfl)) rfl (by decide) (by decide) ?_
            refine x_goP (f_op_g (dst := some 145) (t := 139) (ts := [142, 144, 139]) rfl (by intro _ _ h; cases h) (by kernel_rfl) rfl rfl (bfalse hc42) (fun _ _ ho => ok_pick_tt ho (.tmp rfl) hc43 (.tmp rfl))) rfl (by decide) (by decide) ?_
            try dsimp only [HAct.put, List.set_cons_zero, List.set_cons_succ]
            refine x_goP (f_op (dst := some 146) (ts := [139, 145]) rfl (by intro _ _ h; cases h) (by kernel_rfl) (fun _ _ ho => ok_pick_ff ho (.tmp rfl) (bfalse hc42) (.tmp rfl))) rfl (by decide) (by decide) ?_
            refine x_goP (f_op (dst := some 147) (ts := [146]) rfl (by intro _ _ h; cases h) (by kernel_rfl) (fun _ _ ho => ok_move ho (.tmp rfl))) rfl (by decide) (by decide) ?_
            rcases ifc h with ⟨hc44, h⟩ | ⟨hc44, h⟩
            · refine x_goP (f_skip (dst := some 148) (t := 147) (ts := [5, 147]) rfl (by kernel_rfl) rfl rfl hc44) rfl (by decide) (by decide) ?_
              refine x_goP (f_skip (dst := some 149) (t := 147) (ts := [6, 147]) rfl (by kernel_rfl) rfl rfl hc44) rfl (by decide) (by decide) ?_
              try dsimp only [HAct.put, List.set_cons_zero, List.set_cons_succ]
              refine x_goP (f_skip (dst := some 150) (t := 147) (ts := [1, 147]) rfl (by kernel_rfl) rfl rfl hc44) rfl (by decide) (by decide) ?_
              refine x_goE (e_skip (dst := some 151) (t := 147) (ts := [149, 150, 147]) rfl (by kernel_rfl) rfl rfl hc44) rfl ⟨.inl (by kernel_rfl), trivial⟩ ?_
              refine x_goP (f_skip (dst := some 152) (t := 147) (ts := [1, 147]) rfl (by kernel_rfl) rfl rfl hc44) rfl (by decide) (by decide) ?_
              refine x_goE (e_skip (dst := some 153) (t := 147) (ts := [148, 151, 152, 147]) rfl (by kernel_rfl) rfl rfl hc44) rfl ⟨.inl (by kernel_rfl), trivial⟩ ?_
              try dsimp only [HAct.put, List.set_cons_zero, List.set_cons_succ]
              refine x_goP (f_skip (dst := some 154) (t := 147) (ts := [153, 147]) rfl (by kernel_rfl) rfl rfl hc44) rfl (by decide) (by decide) ?_
              refine x_goP (f_op (dst := some 155) (ts := [147, 154]) rfl (by intro _ _ h; cases h) (by kernel_rfl) (fun _ _ ho => ok_pick_tt ho (.tmp rfl) hc44 (.bool _))) rfl (by decide) (by decide) ?_
              refine x_rest rfl ?_
              refine hr_region_end ?_
              try dsimp only [HAct.put, List.set_cons_zero, List.set_cons_succ]
              try dsimp only [HAct.put, List.set_cons_zero, List.set_cons_succ]
              exact J2_snd hD hH hrec0 h
            · refine x_goP (f_op_g (dst := some 148) (t := 147) (ts := [5, 147]) rfl (by intro _ _ h; cases h) (by kernel_rfl) rfl rfl (bfalse hc44) (fun _ _ ho => ok_move ho (.tmp rfl))) rfl (by decide) (by decide) ?_
              refine x_goP (f_op_g (dst := some 149) (t := 147) (ts := [6, 147]) rfl (by intro _ _ h; cases h) (by kernel_rfl) rfl rfl (bfalse hc44) (fun _ _ ho => ok_move ho (.tmp rfl))) rfl (by decide) (by decide) ?_
              try dsimp only [HAct.put, List.set_cons_zero, List.set_cons_succ]
              refine x_goP (f_op_g (dst := some 150) (t := 147) (ts := [1, 147]) rfl (by intro _ _ h; cases h) (by kernel_rfl) rfl rfl (bfalse hc44) (fun _ _ ho => ok_move ho (.tmp rfl))) rfl (by decide) (by decide) ?_
              obtain ⟨p45, hp45, h⟩ := bindo h
              refine x_goE (e_call_g (dst := some 151) (t := 147) (ts := [149, 150, 147]) rfl (by kernel_rfl) rfl rfl (bfalse hc44) (.func _) (.cons (.tmp rfl) (.cons (.tmp rfl) Evs.nil)) (HInv.static rollcallref09_Table_Due.at_ rollcallref09_Table_Due.body (rollcallref09_Table_Due.snd  hp45))) rfl ⟨.inl (by kernel_rfl), trivial⟩ ?_
              refine x_goP (f_op_g (dst := some 152) (t := 147) (ts := [1, 147]) rfl (by intro _ _ h; cases h) (by kernel_rfl) rfl rfl (bfalse hc44) (fun _ _ ho => ok_move ho (.tmp rfl))) rfl (by decide) (by decide) ?_
              obtain ⟨p46, hp46, h⟩ := bindo h
              refine x_goE (e_call_g (dst := some 153) (t := 147) (ts := [148, 151, 152, 147]) rfl (by kernel_rfl) rfl rfl (bfalse hc44) (.func _) (.cons (.tmp rfl) (.cons (.tmp rfl) (.cons (.tmp rfl) Evs.nil))) (HInv.static rollcalllaw09_same.at_ rollcalllaw09_same.body (rollcalllaw09_same.snd hD hH hp46))) rfl ⟨.inl (by kernel_rfl), trivial⟩ ?_
              try dsimp only [HAct.put, List.set_cons_zero, List.set_cons_succ]
              refine x_goP (f_op_g (dst := some 154) (t := 147) (ts := [153, 147]) rfl (by intro _ _ h; cases h) (by kernel_rfl) rfl rfl (bfalse hc44) (fun _ _ ho => ok_not ho (.tmp rfl))) rfl (by decide) (by decide) ?_
              refine x_goP (f_op (dst := some 155) (ts := [147, 154]) rfl (by intro _ _ h; cases h) (by kernel_rfl) (fun _ _ ho => ok_pick_ff ho (.tmp rfl) (bfalse hc44) (.tmp rfl))) rfl (by decide) (by decide) ?_
              refine x_rest rfl ?_
              refine hr_region_end ?_
              try dsimp only [HAct.put, List.set_cons_zero, List.set_cons_succ]
              try dsimp only [HAct.put, List.set_cons_zero, List.set_cons_succ]
              exact J2_snd hD hH hrec0 h
          · refine x_goP (f_skip (dst := some 143) (t := 142) (ts := [12, 142]) rfl (by kernel_rfl) rfl rfl (bfalse hc43)) rfl (by decide) (by decide) ?_
            refine x_goP (f_skip (dst := some 144) (t := 142) (ts := [143, 142]) rfl (by kernel_rfl) rfl rfl (bfalse hc43)) rfl (by decide) (by decide) ?_
            refine x_goP (f_op_g (dst := some 145) (t := 139) (ts := [142, 144, 139]) rfl (by intro _ _ h; cases h) (by kernel_rfl) rfl rfl (bfalse hc42) (fun _ _ ho => ok_pick_ff ho (.tmp rfl) (bfalse hc43) (.bool _))) rfl (by decide) (by decide) ?_
            try dsimp only [HAct.put, List.set_cons_zero, List.set_cons_succ]
            refine x_goP (f_op (dst := some 146) (ts := [139, 145]) rfl (by intro _ _ h; cases h) (by kernel_rfl) (fun _ _ ho => ok_pick_ff ho (.tmp rfl) (bfalse hc42) (.tmp rfl))) rfl (by decide) (by decide) ?_
            refine x_goP (f_op (dst := some 147) (ts := [146]) rfl (by intro _ _ h; cases h) (by kernel_rfl) (fun _ _ ho => ok_move ho (.tmp rfl))) rfl (by decide) (by decide) ?_
            refine x_goP (f_op_g (dst := some 148) (t := 147) (ts := [5, 147]) rfl (by intro _ _ h; cases h) (by kernel_rfl) rfl rfl rfl (fun _ _ ho => ok_move ho (.tmp rfl))) rfl (by decide) (by decide) ?_
            refine x_goP (f_op_g (dst := some 149) (t := 147) (ts := [6, 147]) rfl (by intro _ _ h; cases h) (by kernel_rfl) rfl rfl rfl (fun _ _ ho => ok_move ho (.tmp rfl))) rfl (by decide) (by decide) ?_
            try dsimp only [HAct.put, List.set_cons_zero, List.set_cons_succ]
            refine x_goP (f_op_g (dst := some 150) (t := 147) (ts := [1, 147]) rfl (by intro _ _ h; cases h) (by kernel_rfl) rfl rfl rfl (fun _ _ ho => ok_move ho (.tmp rfl))) rfl (by decide) (by decide) ?_
            obtain ⟨p47, hp47, h⟩ := bindo h
            refine x_goE (e_call_g (dst := some 151) (t := 147) (ts := [149, 150, 147]) rfl (by kernel_rfl) rfl rfl rfl (.func _) (.cons (.tmp rfl) (.cons (.tmp rfl) Evs.nil)) (HInv.static rollcallref09_Table_Due.at_ rollcallref09_Table_Due.body (rollcallref09_Table_Due.snd  hp47))) rfl ⟨.inl (by kernel_rfl), trivial⟩ ?_
            refine x_goP (f_op_g (dst := some 152) (t := 147) (ts := [1, 147]) rfl (by intro _ _ h; cases h) (by kernel_rfl) rfl rfl rfl (fun _ _ ho => ok_move ho (.tmp rfl))) rfl (by decide) (by decide) ?_
            obtain ⟨p48, hp48, h⟩ := bindo h
            refine x_goE (e_call_g (dst := some 153) (t := 147) (ts := [148, 151, 152, 147]) rfl (by kernel_rfl) rfl rfl rfl (.func _) (.cons (.tmp rfl) (.cons (.tmp rfl) (.cons (.tmp rfl) Evs.nil))) (HInv.static rollcalllaw09_same.at_ rollcalllaw09_same.body (rollcalllaw09_same.snd hD hH hp48))) rfl ⟨.inl (by kernel_rfl), trivial⟩ ?_
            try dsimp only [HAct.put, List.set_cons_zero, List.set_cons_succ]
            refine x_goP (f_op_g (dst := some 154) (t := 147) (ts := [153, 147]) rfl (by intro _ _ h; cases h) (by kernel_rfl) rfl rfl rfl (fun _ _ ho => ok_not ho (.tmp rfl))) rfl (by decide) (by decide) ?_
            refine x_goP (f_op (dst := some 155) (ts := [147, 154]) rfl (by intro _ _ h; cases h) (by kernel_rfl) (fun _ _ ho => ok_pick_ff ho (.tmp rfl) rfl (.tmp rfl))) rfl (by decide) (by decide) ?_
            refine x_rest rfl ?_
            refine hr_region_end ?_
            try dsimp only [HAct.put, List.set_cons_zero, List.set_cons_succ]
            try dsimp only [HAct.put, List.set_cons_zero, List.set_cons_succ]
            exact J2_snd hD hH hrec0 h
      · refine x_goP (f_skip (dst := some 127) (t := 126) (ts := [12, 126]) rfl (by kernel_rfl) rfl rfl (bfalse hc37)) rfl (by decide) (by decide) ?_
        refine x_goP (f_skip (dst := some 128) (t := 126) (ts := [6, 126]) rfl (by kernel_rfl) rfl rfl (bfalse hc37)) rfl (by decide) (by decide) ?_
        refine x_goP (f_skip (dst := some 129) (t := 126) (ts := [128, 126]) rfl (by kernel_rfl) rfl rfl (bfalse hc37)) rfl (by decide) (by decide) ?_
        try dsimp only [HAct.put, List.set_cons_zero, List.set_cons_succ]
        refine x_goP (f_skip (dst := some 130) (t := 126) (ts := [129, 126]) rfl (by kernel_rfl) rfl rfl (bfalse hc37)) rfl (by decide) (by decide) ?_
        refine x_goP (r_skip (dst := some 131) (t := 126) (ts := [130, 126]) rfl (by kernel_rfl) rfl rfl (bfalse hc37)) rfl (by decide) (by decide) ?_
        refine x_goP (f_skip (dst := some 132) (t := 126) (ts := [14, 126]) rfl (by kernel_rfl) rfl rfl (bfalse hc37)) rfl (by decide) (by decide) ?_
        refine x_goP (r_skip (dst := some 133) (t := 126) (ts := [131, 132, 126]) rfl (by kernel_rfl) rfl rfl (bfalse hc37)) rfl (by decide) (by decide) ?_
        try dsimp only [HAct.put, List.set_cons_zero, List.set_cons_succ]
        refine x_goP (f_skip (dst := some 134) (t := 126) (ts := [133, 126]) rfl (by kernel_rfl) rfl rfl (bfalse hc37)) rfl (by decide) (by decide) ?_
        refine x_goP (r_skip (dst := some 135) (t := 126) (ts := [134, 126]) rfl (by kernel_rfl) rfl rfl (bfalse hc37)) rfl (by decide) (by decide) ?_
        refine x_goP (f_skip (dst := some 136) (t := 126) (ts := [127, 135, 126]) rfl (by kernel_rfl) rfl rfl (bfalse hc37)) rfl (by decide) (by decide) ?_
        refine x_goP (f_op_g (dst := some 137) (t := 124) (ts := [126, 136, 124]) rfl (by intro _ _ h; cases h) (by kernel_rfl) rfl rfl (bfalse hc36) (fun _ _ ho => ok_pick_ff ho (.tmp rfl) (bfalse hc37) (.bool _))) rfl (by decide) (by decide) ?_
        try dsimp only [HAct.put, List.set_cons_zero, List.set_cons_succ]
        refine x_goP (f_op (dst := some 138) (ts := [124, 137]) rfl (by intro _ _ h; cases h) (by kernel_rfl) (fun _ _ ho => ok_pick_ff ho (.tmp rfl) (bfalse hc36) (.tmp rfl))) rfl (by decide) (by decide) ?_
        refine x_goP (f_op (dst := some 139) (ts := [138]) rfl (by intro _ _ h; cases h) (by kernel_rfl) (fun _ _ ho => ok_move ho (.tmp rfl))) rfl (by decide) (by decide) ?_
        refine x_goP (f_op_g (dst := some 140) (t := 139) (ts := [13, 139]) rfl (by intro _ _ h; cases h) (by kernel_rfl) rfl rfl rfl (fun _ _ ho => ok_move ho (.tmp rfl))) rfl (by decide) (by decide) ?_
        refine x_goP (f_op_g (dst := some 141) (t := 139) (ts := [140, 139]) rfl (by intro _ _ h; cases h) (by kernel_rfl) rfl rfl rfl (fun _ _ ho => ok_not ho (.tmp rfl))) rfl (by decide) (by decide) ?_
        try dsimp only [HAct.put, List.set_cons_zero, List.set_cons_succ]
        refine x_goP (f_op_g (dst := some 142) (t := 139) (ts := [141, 139]) rfl (by intro _ _ h; cases h) (by kernel_rfl) rfl rfl rfl (fun _ _ ho => ok_move ho (.tmp rfl))) rfl (by decide) (by decide) ?_
        rcases ifc h with ⟨hc49, h⟩ | ⟨hc49, h⟩
        · refine x_goP (f_op_g (dst := some 143) (t := 142) (ts := [12, 142]) rfl (by intro _ _ h; cases h) (by kernel_rfl) rfl rfl hc49 (fun _ _ ho => ok_move ho (.tmp rfl))) rfl (by decide) (by decide) ?_
          refine x_goP (f_op_g (dst := some 144) (t := 142) (ts := [143, 142]) rfl (by intro _ _ h; cases h) (by kernel_rfl) rfl rfl hc49 (fun _ _ ho => ok_ibin ho (.tmp rfl) (.int _ _) rfl)) rfl (by decide) (by decide) ?_
          refine x_goP (f_op_g (dst := some 145) (t := 139) (ts := [142, 144, 139]) rfl (by intro _ _ h; cases h) (by kernel_rfl) rfl rfl rfl (fun _ _ ho => ok_pick_tt ho (.tmp rfl) hc49 (.tmp rfl))) rfl (by decide) (by decide) ?_
          try dsimp only [HAct.put, List.set_cons_zero, List.set_cons_succ]
          refine x_goP (f_op (dst := some 146) (ts := [139, 145]) rfl (by intro _ _ h; cases h) (by kernel_rfl) (fun _ _ ho => ok_pick_ff ho (.tmp rfl) rfl (.tmp rfl))) rfl (by decide) (by decide) ?_
          refine x_goP (f_op (dst := some 147) (ts := [146]) rfl (by intro _ _ h; cases h) (by kernel_rfl) (fun _ _ ho => ok_move ho (.tmp rfl))) rfl (by decide) (by decide) ?_
          rcases ifc h with ⟨hc50, h⟩ | ⟨hc50, h⟩
          · refine x_goP (f_skip (dst := some 148) (t := 147) (ts := [5, 147]) rfl (by kernel_rfl) rfl rfl hc50) rfl (by decide) (by decide) ?_
            refine x_goP (f_skip (dst := some 149) (t := 147) (ts := [6, 147]) rfl (by kernel_rfl) rfl rfl hc50) rfl (by decide) (by decide) ?_
            try dsimp only [HAct.put, List.set_cons_zero, List.set_cons_succ]
            refine x_goP (f_skip (dst := some 150) (t := 147) (ts := [1, 147]) rfl (by kernel_rfl) rfl rfl hc50) rfl (by decide) (by decide) ?_
            refine x_goE (e_skip (dst := some 151) (t := 147) (ts := [149, 150, 147]) rfl (by kernel_rfl) rfl rfl hc50) rfl ⟨.inl (by kernel_rfl), trivial⟩ ?_
            refine x_goP (f_skip (dst := some 152) (t := 147) (ts := [1, 147]) rfl (by kernel_rfl) rfl rfl hc50) rfl (by decide) (by decide) ?_
            refine x_goE (e_skip (dst := some 153) (t := 147) (ts := [148, 151, 152, 147]) rfl (by kernel_rfl) rfl rfl hc50) rfl ⟨.inl (by kernel_rfl), trivial⟩ ?_
            try dsimp only [HAct.put, List.set_cons_zero, List.set_cons_succ]
            refine x_goP (f_skip (dst := some 154) (t := 147) (ts := [153, 147]) rfl (by kernel_rfl) rfl rfl hc50) rfl (by decide) (by decide) ?_
            refine x_goP (f_op (dst := some 155) (ts := [147, 154]) rfl (by intro _ _ h; cases h) (by kernel_rfl) (fun _ _ ho => ok_pick_tt ho (.tmp rfl) hc50 (.bool _))) rfl (by decide) (by decide) ?_
            refine x_rest rfl ?_
            refine hr_region_end ?_
            try dsimp only [HAct.put, List.set_cons_zero, List.set_cons_succ]
            try dsimp only [HAct.put, List.set_cons_zero, List.set_cons_succ]
            exact J2_snd hD hH hrec0 h
          · refine x_goP (f_op_g (dst := some 148) (t := 147) (ts := [5, 147]) rfl (by intro _ _ h; cases h) (by kernel_rfl) rfl rfl (bfalse hc50) (fun _ _ ho => ok_move ho (.tmp rfl))) rfl (by decide) (by decide) ?_
            refine x_goP (f_op_g (dst := some 149) (t := 147) (ts := [6, 147]) rfl (by intro _ _ h; cases h) (by kernel_rfl) rfl rfl (bfalse hc50) (fun _ _ ho => ok_move ho (.tmp rfl))) rfl (by decide) (by decide) ?_
            try dsimp only [HAct.put, List.set_cons_zero, List.set_cons_succ]
            refine x_goP (f_op_g (dst := some 150) (t := 147) (ts := [1, 147]) rfl (by intro _ _ h; cases h) (by kernel_rfl) rfl rfl (bfalse hc50) (fun _ _ ho => ok_move ho (.tmp rfl))) rfl (by decide) (by decide) ?_
            obtain ⟨p51, hp51, h⟩ := bindo h
            refine x_goE (e_call_g (dst := some 151) (t := 147) (ts := [149, 150, 147]) rfl (by kernel_rfl) rfl rfl (bfalse hc50) (.func _) (.cons (.tmp rfl) (.cons (.tmp rfl) Evs.nil)) (HInv.static rollcallref09_Table_Due.at_ rollcallref09_Table_Due.body (rollcallref09_Table_Due.snd  hp51))) rfl ⟨.inl (by kernel_rfl), trivial⟩ ?_
            refine x_goP (f_op_g (dst := some 152) (t := 147) (ts := [1, 147]) rfl (by intro _ _ h; cases h) (by kernel_rfl) rfl rfl (bfalse hc50) (fun _ _ ho => ok_move ho (.tmp rfl))) rfl (by decide) (by decide) ?_
            obtain ⟨p52, hp52, h⟩ := bindo h
            refine x_goE (e_call_g (dst := some 153) (t := 147) (ts := [148, 151, 152, 147]) rfl (by kernel_rfl) rfl rfl (bfalse hc50) (.func _) (.cons (.tmp rfl) (.cons (.tmp rfl) (.cons (.tmp rfl) Evs.nil))) (HInv.static rollcalllaw09_same.at_ rollcalllaw09_same.body (rollcalllaw09_same.snd hD hH hp52))) rfl ⟨.inl (by kernel_rfl), trivial⟩ ?_
            try dsimp only [HAct.put, List.set_cons_zero, List.set_cons_succ]
            refine x_goP (f_op_g (dst := some 154) (t := 147) (ts := [153, 147]) rfl (by intro _ _ h; cases h) (by kernel_rfl) rfl rfl (bfalse hc50) (fun _ _ ho => ok_not ho (.tmp rfl))) rfl (by decide) (by decide) ?_
            refine x_goP (f_op (dst := some 155) (ts := [147, 154]) rfl (by intro _ _ h; cases h) (by kernel_rfl) (fun _ _ ho => ok_pick_ff ho (.tmp rfl) (bfalse hc50) (.tmp rfl))) rfl (by decide) (by decide) ?_
            refine x_rest rfl ?_
            refine hr_region_end ?_
            try dsimp only [HAct.put, List.set_cons_zero, List.set_cons_succ]
            try dsimp only [HAct.put, List.set_cons_zero, List.set_cons_succ]
            exact J2_snd hD hH hrec0 h
        · refine x_goP (f_skip (dst := some 143) (t := 142) (ts := [12, 142]) rfl (by kernel_rfl) rfl rfl (bfalse hc49)) rfl (by decide) (by decide) ?_
          refine x_goP (f_skip (dst := some 144) (t := 142) (ts := [143, 142]) rfl (by kernel_rfl) rfl rfl (bfalse hc49)) rfl (by decide) (by decide) ?_
          refine x_goP (f_op_g (dst := some 145) (t := 139) (ts := [142, 144, 139]) rfl (by intro _ _ h; cases h) (by kernel_rfl) rfl rfl rfl (fun _ _ ho => ok_pick_ff ho (.tmp rfl) (bfalse hc49) (.bool _))) rfl (by decide) (by decide) ?_
          try dsimp only [HAct.put, List.set_cons_zero, List.set_cons_succ]
          refine x_goP (f_op (dst := some 146) (ts := [139, 145]) rfl (by intro _ _ h; cases h) (by kernel_rfl) (fun _ _ ho => ok_pick_ff ho (.tmp rfl) rfl (.tmp rfl))) rfl (by decide) (by decide) ?_
          refine x_goP (f_op (dst := some 147) (ts := [146]) rfl (by intro _ _ h; cases h) (by kernel_rfl) (fun _ _ ho => ok_move ho (.tmp rfl))) rfl (by decide) (by decide) ?_
          refine x_goP (f_op_g (dst := some 148) (t := 147) (ts := [5, 147]) rfl (by intro _ _ h; cases h) (by kernel_rfl) rfl rfl rfl (fun _ _ ho => ok_move ho (.tmp rfl))) rfl (by decide) (by decide) ?_
          refine x_goP (f_op_g (dst := some 149) (t := 147) (ts := [6, 147]) rfl (by intro _ _ h; cases h) (by kernel_rfl) rfl rfl rfl (fun _ _ ho => ok_move ho (.tmp rfl))) rfl (by decide) (by decide) ?_
          try dsimp only [HAct.put, List.set_cons_zero, List.set_cons_succ]
          refine x_goP (f_op_g (dst := some 150) (t := 147) (ts := [1, 147]) rfl (by intro _ _ h; cases h) (by kernel_rfl) rfl rfl rfl (fun _ _ ho => ok_move ho (.tmp rfl))) rfl (by decide) (by decide) ?_
          obtain ⟨p53, hp53, h⟩ := bindo h
          refine x_goE (e_call_g (dst := some 151) (t := 147) (ts := [149, 150, 147]) rfl (by kernel_rfl) rfl rfl rfl (.func _) (.cons (.tmp rfl) (.cons (.tmp rfl) Evs.nil)) (HInv.static rollcallref09_Table_Due.at_ rollcallref09_Table_Due.body (rollcallref09_Table_Due.snd  hp53))) rfl ⟨.inl (by kernel_rfl), trivial⟩ ?_
          refine x_goP (f_op_g (dst := some 152) (t := 147) (ts := [1, 147]) rfl (by intro _ _ h; cases h) (by kernel_rfl) rfl rfl rfl (fun _ _ ho => ok_move ho (.tmp rfl))) rfl (by decide) (by decide) ?_
          obtain ⟨p54, hp54, h⟩ := bindo h
          refine x_goE (e_call_g (dst := some 153) (t := 147) (ts := [148, 151, 152, 147]) rfl (by kernel_rfl) rfl rfl rfl (.func _) (.cons (.tmp rfl) (.cons (.tmp rfl) (.cons (.tmp rfl) Evs.nil))) (HInv.static rollcalllaw09_same.at_ rollcalllaw09_same.body (rollcalllaw09_same.snd hD hH hp54))) rfl ⟨.inl (by kernel_rfl), trivial⟩ ?_
          try dsimp only [HAct.put, List.set_cons_zero, List.set_cons_succ]
          refine x_goP (f_op_g (dst := some 154) (t := 147) (ts := [153, 147]) rfl (by intro _ _ h; cases h) (by kernel_rfl) rfl rfl rfl (fun _ _ ho => ok_not ho (.tmp rfl))) rfl (by decide) (by decide) ?_
          refine x_goP (f_op (dst := some 155) (ts := [147, 154]) rfl (by intro _ _ h; cases h) (by kernel_rfl) (fun _ _ ho => ok_pick_ff ho (.tmp rfl) rfl (.tmp rfl))) rfl (by decide) (by decide) ?_
          refine x_rest rfl ?_
          refine hr_region_end ?_
          try dsimp only [HAct.put, List.set_cons_zero, List.set_cons_succ]
          try dsimp only [HAct.put, List.set_cons_zero, List.set_cons_succ]
          exact J2_snd hD hH hrec0 h
def L3 (D : Dp) (H : Hd) (k : Nat) (rec0 : Sl → Int → (Option HA) → (Option HA) → Int → HS → Option ((Bool) × HS)) : Nat → Sl → Int → (Option HA) → (Option HA) → Int → (Option HA) → Sl → Sl → Int → HS → Option ((Bool) × HS)
  | 0, _, _, _, _, _, _, _, _, _, _ => none
  | n + 1, y0, y1, y5, y6, y7, y8, y9, y10, y11, S =>
    (if y11 < (Sl.len y10 : Int) then
    (Option.bind (HS.idx S y9 y11 1) fun p64 =>
    (Option.bind (HS.ldS S p64) fun p65 =>
    (Option.bind (HS.idx S y10 y11 2) fun p66 =>
    (Option.bind (HS.ldS S (HA.fld p66 0)) fun p67 =>
    (if (!decide (p65 = p67)) = true then
    some (false, S) else
    (Option.bind (HS.idx S y10 y11 2) fun p69 =>
    (Option.bind (HS.ldS S (HA.fld p69 0)) fun p70 =>
    (Option.bind (rollcallref09_Table_Stop.f k y6 p70 S) fun p71 =>
    (L3 D H k rec0 n) y0 y1 y5 y6 y7 y8 y9 y10 (w64 (y11 + 1)) p71.2)))))))) else
    J1 D H k rec0 y0 y1 y5 y6 y7 y8 S)
theorem L3_snd {D : Dp} {H : Hd} {k : Nat} {rec0 : Sl → Int → (Option HA) → (Option HA) → Int → HS → Option ((Bool) × HS)} (hD : DSound Try.prog base W0 D) (hH : HSound Try.prog base W0 β0 H) (hrec0 : ∀ ⦃y0 : Sl⦄ ⦃y1 : Int⦄ ⦃y5 : (Option HA)⦄ ⦃y6 : (Option HA)⦄ ⦃y7 : Int⦄ ⦃S : HS⦄ ⦃p : (Bool) × HS⦄ ⦃g2 g3 g4 g8 g9 g10 g11 g12 g13 g14 g15 g16 g17 g18 g19 g20 g21 g22 g23 g24 g25 g26 g27 g28 g29 g30 g31 g32 g33 g34 g35 g36 g37 g38 g39 g40 g41 g42 g43 g44 g45 g46 g47 g48 g49 g50 g51 g52 g53 g54 g55 g56 g57 g58 g59 g60 g61 g62 g63 g64 g65 g66 g67 g68 g69 g70 g71 g72 g73 g74 g75 g76 g77 g78 g79 g80 g81 g82 g83 g84 g85 g86 g87 g88 g89 g90 g91 g92 g93 g94 g95 g96 g97 g98 g99 g100 g101 g102 g103 g104 g105 g106 g107 g108 g109 g110 g111 g112 g113 g114 g115 g116 g117 g118 g119 g120 g121 g122 g123 g124 g125 g126 g127 g128 g129 g130 g131 g132 g133 g134 g135 g136 g137 g138 g139 g140 g141 g142 g143 g144 g145 g146 g147 g148 g149 g150 g151 g152 g153 g154 g155 g156 g157 g158 g159 g160 g161 g162 g163 g164 g165 g166 g167 g168 g169 g170 g171 g172 g173 g174 g175 g176 g177 g178 g179 g180 g181 g182 g183 g184 g185 g186 g187 g188 g189 g190 g191 g192 g193 g194 g195 g196 g197 g198 g199 : HV⦄, rec0 y0 y1 y5 y6 y7 S = some p → HRun Try.prog base W0 β0 3 none [.inLoop c27, .inBlock 0, .code c101] ⟨[(Sl.hv y0), (.int .i64 y1), g2, g3, g4, (.ptr y5), (.ptr y6), (.int .i64 y7), g8, g9, g10, g11, g12, g13, g14, g15, g16, g17, g18, g19, g20, g21, g22, g23, g24, g25, g26, g27, g28, g29, g30, g31, g32, g33, g34, g35, g36, g37, g38, g39, g40, g41, g42, g43, g44, g45, g46, g47, g48, g49, g50, g51, g52, g53, g54, g55, g56, g57, g58, g59, g60, g61, g62, g63, g64, g65, g66, g67, g68, g69, g70, g71, g72, g73, g74, g75, g76, g77, g78, g79, g80, g81, g82, g83, g84, g85, g86, g87, g88, g89, g90, g91, g92, g93, g94, g95, g96, g97, g98, g99, g100, g101, g102, g103, g104, g105, g106, g107, g108, g109, g110, g111, g112, g113, g114, g115, g116, g117, g118, g119, g120, g121, g122, g123, g124, g125, g126, g127, g128, g129, g130, g131, g132, g133, g134, g135, g136, g137, g138, g139, g140, g141, g142, g143, g144, g145, g146, g147, g148, g149, g150, g151, g152, g153, g154, g155, g156, g157, g158, g159, g160, g161, g162, g163, g164, g165, g166, g167, g168, g169, g170, g171, g172, g173, g174, g175, g176, g177, g178, g179, g180, g181, g182, g183, g184, g185, g186, g187, g188, g189, g190, g191, g192, g193, g194, g195, g196, g197, g198, g199], []⟩ S (fun v S1 => v = (.bool p.1) ∧ S1 = p.2)) : ∀ {n : Nat} ⦃y0 : Sl⦄ ⦃y1 : Int⦄ ⦃y5 : (Option HA)⦄ ⦃y6 : (Option HA)⦄ ⦃y7 : Int⦄ ⦃y8 : (Option HA)⦄ ⦃y9 : Sl⦄ ⦃y10 : Sl⦄ ⦃y11 : Int⦄ ⦃S : HS⦄ ⦃p : (Bool) × HS⦄ ⦃g2 g3 g4 g12 g13 g14 g15 g16 g17 g18 g19 g20 g21 g22 g23 g24 g25 g26 g27 g28 g29 g30 g31 g32 g33 g34 g35 g36 g37 g38 g39 g40 g41 g42 g43 g44 g45 g46 g47 g48 g49 g50 g51 g52 g53 g54 g55 g56 g57 g58 g59 g60 g61 g62 g63 g64 g65 g66 g67 g68 g69 g70 g71 g72 g73 g74 g75 g76 g77 g78 g79 g80 g81 g82 g83 g84 g85 g86 g87 g88 g89 g90 g91 g92 g93 g94 g95 g96 g97 g98 g99 g100 g101 g102 g103 g104 g105 g106 g107 g108 g109 g110 g111 g112 g113 g114 g115 g116 g117 g118 g119 g120 g121 g122 g123 g124 g125 g126 g127 g128 g129 g130 g131 g132 g133 g134 g135 g136 g137 g138 g139 g140 g141 g142 g143 g144 g145 g146 g147 g148 g149 g150 g151 g152 g153 g154 g155 g156 g157 g158 g159 g160 g161 g162 g163 g164 g165 g166 g167 g168 g169 g170 g171 g172 g173 g174 g175 g176 g177 g178 g179 g180 g181 g182 g183 g184 g185 g186 g187 g188 g189 g190 g191 g192 g193 g194 g195 g196 g197 g198 g199 : HV⦄, L3 D H k rec0 n y0 y1 y5 y6 y7 y8 y9 y10 y11 S = some p → HRun Try.prog base W0 β0 3 none [.inLoop c68, .inBlock 3, .inBlock 2, .code c89, .inBlock 1, .code c100, .inLoop c27, .inBlock 0, .code c101] ⟨[(Sl.hv y0), (.int .i64 y1), g2, g3, g4, (.ptr y5), (.ptr y6), (.int .i64 y7), (.ptr y8), (Sl.hv y9), (Sl.hv y10), (.int .i64 y11), g12, g13, g14, g15, g16, g17, g18, g19, g20, g21, g22, g23, g24, g25, g26, g27, g28, g29, g30, g31, g32, g33, g34, g35, g36, g37, g38, g39, g40, g41, g42, g43, g44, g45, g46, g47, g48, g49, g50, g51, g52, g53, g54, g55, g56, g57, g58, g59, g60, g61, g62, g63, g64, g65, g66, g67, g68, g69, g70, g71, g72, g73, g74, g75, g76, g77, g78, g79, g80, g81, g82, g83, g84, g85, g86, g87, g88, g89, g90, g91, g92, g93, g94, g95, g96, g97, g98, g99, g100, g101, g102, g103, g104, g105, g106, g107, g108, g109, g110, g111, g112, g113, g114, g115, g116, g117, g118, g119, g120, g121, g122, g123, g124, g125, g126, g127, g128, g129, g130, g131, g132, g133, g134, g135, g136, g137, g138, g139, g140, g141, g142, g143, g144, g145, g146, g147, g148, g149, g150, g151, g152, g153, g154, g155, g156, g157, g158, g159, g160, g161, g162, g163, g164, g165, g166, g167, g168, g169, g170, g171, g172, g173, g174, g175, g176, g177, g178, g179, g180, g181, g182, g183, g184, g185, g186, g187, g188, g189, g190, g191, g192, g193, g194, g195, g196, g197, g198, g199], []⟩ S (fun v S1 => v = (.bool p.1) ∧ S1 = p.2) := by
  intro n
  induction n with
  | zero => intro _ _ _ _ _ _ _ _ _ _ _ _ _ _ _ _ _ _ _ _ _ _ _ _ _ _ _ _ _ _ _ _ _ _ _ _ _ _ _ _ _ _ _ _ _ _ _ _ _ _ _ _ _ _ _ _ _ _ _ _ _ _ _ _ _ _ _ _ _ _ _ _ _ _ _ _ _ _ _ _ _ _ _ _ _ _ _ _ _ _ _ _ _ _ _ _ _ _ _ _ _ _ _ _ _ _ _ _ _ _ _ _ _ _ _ _ _ _ _ _ _ _ _ _ _ _ _ _ _ _ _ _ _ _ _ _ _ _ _ _ _ _ _ _ _ _ _ _ _ _ _ _ _ _ _ _ _ _ _ _ _ _ _ _ _ _ _ _ _ _ _ _ _ _ _ _ _ _ _ _ _ _ _ _ _ _ _ _ _ _ _ _ _ _ _ _ _ _ _ _ _ _ h; cases h
  | succ n ih =>
    intro y0 y1 y5 y6 y7 y8 y9 y10 y11 S p g2 g3 g4 g12 g13 g14 g15 g16 g17 g18 g19 g20 g21 g22 g23 g24 g25 g26 g27 g28 g29 g30 g31 g32 g33 g34 g35 g36 g37 g38 g39 g40 g41 g42 g43 g44 g45 g46 g47 g48 g49 g50 g51 g52 g53 g54 g55 g56 g57 g58 g59 g60 g61 g62 g63 g64 g65 g66 g67 g68 g69 g70 g71 g72 g73 g74 g75 g76 g77 g78 g79 g80 g81 g82 g83 g84 g85 g86 g87 g88 g89 g90 g91 g92 g93 g94 g95 g96 g97 g98 g99 g100 g101 g102 g103 g104 g105 g106 g107 g108 g109 g110 g111 g112 g113 g114 g115 g116 g117 g118 g119 g120 g121 g122 g123 g124 g125 g126 g127 g128 g129 g130 g131 g132 g133 g134 g135 g136 g137 g138 g139 g140 g141 g142 g143 g144 g145 g146 g147 g148 g149 g150 g151 g152 g153 g154 g155 g156 g157 g158 g159 g160 g161 g162 g163 g164 g165 g166 g167 g168 g169 g170 g171 g172 g173 g174 g175 g176 g177 g178 g179 g180 g181 g182 g183 g184 g185 g186 g187 g188 g189 g190 g191 g192 g193 g194 g195 g196 g197 g198 g199 h
    simp only [L3] at h
    refine hr_inLoop ?_
    refine q_seq e68 ?_
    refine q_seq e69 ?_
    refine q_region e70 rfl ?_
    refine q_op (dst := some 76) rfl (fun _ ho => ok_move ho (.tmp rfl)) ?_
    refine q_op (dst := some 77) rfl (fun _ ho => ok_move ho (.tmp rfl)) ?_
    refine q_op (dst := some 78) rfl (fun _ ho => ok_len_sl (q := Sl.a y10) (n := Sl.len y10) (z := Sl.cap y10) ho rfl tu28 (.tmp rfl)) ?_
    refine q_op (dst := some 79) rfl (fun _ ho => ok_ibin ho (.tmp rfl) (.tmp rfl) rfl) ?_
    refine hr_region_end ?_
    try dsimp only [HAct.put, List.set_cons_zero, List.set_cons_succ]
    rcases ifc h with ⟨hc63, h⟩ | ⟨hc63, h⟩
    · refine q_cond_t e71 (.tmp rfl) (decide_eq_true hc63) ?_
      refine q_skipc e72 ?_
      refine q_seq e74 ?_
      refine q_block e75 ?_
      refine q_seq e76 ?_
      refine q_seq e77 ?_
      refine x_start (cls := [0, 0, 1, 1, 0, 0, 1, 0, 1, 0]) (rk := [0, 1, 2, 3, 4, 5, 6, 7, 8, 9]) e78 (by kernel_rfl) ?_
      refine x_go (f_op (dst := some 82) (ts := [9]) rfl (by intro _ _ h; cases h) (by kernel_rfl) (fun _ _ ho => ok_move ho (.tmp rfl))) rfl ?_
      refine x_go (f_op (dst := some 83) (ts := [11]) rfl (by intro _ _ h; cases h) (by kernel_rfl) (fun _ _ ho => ok_move ho (.tmp rfl))) rfl ?_
      obtain ⟨p64, hp64, h⟩ := bindo h
      refine x_go (r_op (dst := some 84) (ts := [82, 83]) rfl (by intro _ _ h; cases h) (by kernel_rfl) (fun _ ho => ok_indexAddr (s := y9) ho tu34 sz9 (.tmp rfl) (.tmp rfl) hp64)) rfl ?_
      obtain ⟨p65, hp65, h⟩ := bindo h
      refine x_go (r_op (dst := some 85) (ts := [84]) rfl (by intro _ _ h; cases h) (by kernel_rfl) (fun _ ho => ok_load_s ho sc9 (.tmp rfl) rfl (ldS_out hp65))) rfl ?_
      try dsimp only [HAct.put, List.set_cons_zero, List.set_cons_succ]
      refine x_go (f_op (dst := some 86) (ts := [10]) rfl (by intro _ _ h; cases h) (by kernel_rfl) (fun _ _ ho => ok_move ho (.tmp rfl))) rfl ?_
      refine x_go (f_op (dst := some 87) (ts := [11]) rfl (by intro _ _ h; cases h) (by kernel_rfl) (fun _ _ ho => ok_move ho (.tmp rfl))) rfl ?_
      obtain ⟨p66, hp66, h⟩ := bindo h
      refine x_go (r_op (dst := some 88) (ts := [86, 87]) rfl (by intro _ _ h; cases h) (by kernel_rfl) (fun _ ho => ok_indexAddr (s := y10) ho tu28 sz38 (.tmp rfl) (.tmp rfl) hp66)) rfl ?_
      refine x_go (f_op (dst := some 89) (ts := [88]) rfl (by intro _ _ h; cases h) (by kernel_rfl) (fun _ _ ho => ok_fieldAddr_s ho fi38_0 (by decide) (.tmp rfl) rfl)) rfl ?_
      try dsimp only [HAct.put, List.set_cons_zero, List.set_cons_succ]
      obtain ⟨p67, hp67, h⟩ := bindo h
      refine x_go (r_op (dst := some 90) (ts := [89]) rfl (by intro _ _ h; cases h) (by kernel_rfl) (fun _ ho => ok_load_s ho sc9 (.tmp rfl) rfl (ldS_out hp67))) rfl ?_
      refine x_go (f_op (dst := some 91) (ts := [85, 90]) rfl (by intro _ _ h; cases h) (by kernel_rfl) (fun _ _ ho => ok_sbin ho (.tmp rfl) (.tmp rfl) rfl)) rfl ?_
      refine x_rest rfl ?_
      refine hr_region_end ?_
      try dsimp only [HAct.put, List.set_cons_zero, List.set_cons_succ]
      rcases ifc h with ⟨hc68, h⟩ | ⟨hc68, h⟩
      · refine q_cond_t e79 (.tmp rfl) hc68 ?_
        refine q_seq e80 ?_
        refine q_region e81 rfl ?_
        refine q_op (dst := some 4) rfl (fun _ ho => ok_assign ho (.bool _)) ?_
        refine hr_region_end ?_
        try dsimp only [HAct.put, List.set_cons_zero, List.set_cons_succ]
        cases h
        exact q_ret e82 at_.at_ rfl (res1 rfl rfl) ⟨rfl, rfl⟩
      · refine q_cond_f e79 (.tmp rfl) (bfalse hc68) ?_
        refine q_skipc e83 ?_
        refine q_region e84 rfl ?_
        refine q_op (dst := some 92) rfl (fun _ ho => ok_move ho (.tmp rfl)) ?_
        refine q_op (dst := some 93) rfl (fun _ ho => ok_move ho (.tmp rfl)) ?_
        refine q_op (dst := some 94) rfl (fun _ ho => ok_move ho (.tmp rfl)) ?_
        obtain ⟨p69, hp69, h⟩ := bindo h
        refine q_op (dst := some 95) rfl (fun _ ho => ok_indexAddr (s := y10) ho tu28 sz38 (.tmp rfl) (.tmp rfl) hp69) ?_
        try dsimp only [HAct.put, List.set_cons_zero, List.set_cons_succ]
        refine q_op (dst := some 96) rfl (fun _ ho => ok_fieldAddr_s ho fi38_0 (by decide) (.tmp rfl) rfl) ?_
        obtain ⟨p70, hp70, h⟩ := bindo h
        refine q_op (dst := some 97) rfl (fun _ ho => ok_load_s ho sc9 (.tmp rfl) rfl (ldS_out hp70)) ?_
        obtain ⟨p71, hp71, h⟩ := bindo h
        refine q_call (dst := some 98) rfl (.func _) (.cons (.tmp rfl) (.cons (.tmp rfl) Evs.nil)) (HInv.static rollcallref09_Table_Stop.at_ rollcallref09_Table_Stop.body (rollcallref09_Table_Stop.snd  hp71)) ?_
        rintro _ _ ⟨rfl, rfl⟩
        refine hr_region_end ?_
        try dsimp only [HAct.put, List.set_cons_zero, List.set_cons_succ]
        refine hr_inBlock ?_
        refine q_region e85 rfl ?_
        refine q_op (dst := some 80) rfl (fun _ ho => ok_move ho (.tmp rfl)) ?_
        refine q_op (dst := some 81) rfl (fun _ ho => ok_ibin ho (.tmp rfl) (.int _ _) rfl) ?_
        refine q_op (dst := some 11) rfl (fun _ ho => ok_assign ho (.tmp rfl)) ?_
        refine hr_region_end ?_
        try dsimp only [HAct.put, List.set_cons_zero, List.set_cons_succ]
        try dsimp only [HAct.put, List.set_cons_zero, List.set_cons_succ]
        exact ih h
    · refine q_cond_f e71 (.tmp rfl) (decide_eq_false hc63) ?_
      refine q_exit e73 rfl ?_
      refine hr_inBlock ?_
      try dsimp only [HAct.put, List.set_cons_zero, List.set_cons_succ]
      exact J1_snd hD hH hrec0 h
def J7 (D : Dp) (H : Hd) (k : Nat) (y199 : Bool) (S : HS) : Option ((Bool) × HS) :=
  some (y199, S)
theorem J7_snd {D : Dp} {H : Hd} {k : Nat} (hD : DSound Try.prog base W0 D) (hH : HSound Try.prog base W0 β0 H)  {y199 : Bool} {S : HS} {p : (Bool) × HS} {g0 g1 g2 g3 g4 g5 g6 g7 g8 g9 g10 g11 g12 g13 g14 g15 g16 g17 g18 g19 g20 g21 g22 g23 g24 g25 g26 g27 g28 g29 g30 g31 g32 g33 g34 g35 g36 g37 g38 g39 g40 g41 g42 g43 g44 g45 g46 g47 g48 g49 g50 g51 g52 g53 g54 g55 g56 g57 g58 g59 g60 g61 g62 g63 g64 g65 g66 g67 g68 g69 g70 g71 g72 g73 g74 g75 g76 g77 g78 g79 g80 g81 g82 g83 g84 g85 g86 g87 g88 g89 g90 g91 g92 g93 g94 g95 g96 g97 g98 g99 g100 g101 g102 g103 g104 g105 g106 g107 g108 g109 g110 g111 g112 g113 g114 g115 g116 g117 g118 g119 g120 g121 g122 g123 g124 g125 g126 g127 g128 g129 g130 g131 g132 g133 g134 g135 g136 g137 g138 g139 g140 g141 g142 g143 g144 g145 g146 g147 g148 g149 g150 g151 g152 g153 g154 g155 g156 g157 g158 g159 g160 g161 g162 g163 g164 g165 g166 g167 g168 g169 g170 g171 g172 g173 g174 g175 g176 g177 g178 g179 g180 g181 g182 g183 g184 g185 g186 g187 g188 g189 g190 g191 g192 g193 g194 g195 g196 g197 g198 : HV} (h : J7 D H k y199 S = some p) : HRun Try.prog base W0 β0 3 none [.inRegion r106 [36], .code c107] ⟨[g0, g1, g2, g3, g4, g5, g6, g7, g8, g9, g10, g11, g12, g13, g14, g15, g16, g17, g18, g19, g20, g21, g22, g23, g24, g25, g26, g27, g28, g29, g30, g31, g32, g33, g34, g35, g36, g37, g38, g39, g40, g41, g42, g43, g44, g45, g46, g47, g48, g49, g50, g51, g52, g53, g54, g55, g56, g57, g58, g59, g60, g61, g62, g63, g64, g65, g66, g67, g68, g69, g70, g71, g72, g73, g74, g75, g76, g77, g78, g79, g80, g81, g82, g83, g84, g85, g86, g87, g88, g89, g90, g91, g92, g93, g94, g95, g96, g97, g98, g99, g100, g101, g102, g103, g104, g105, g106, g107, g108, g109, g110, g111, g112, g113, g114, g115, g116, g117, g118, g119, g120, g121, g122, g123, g124, g125, g126, g127, g128, g129, g130, g131, g132, g133, g134, g135, g136, g137, g138, g139, g140, g141, g142, g143, g144, g145, g146, g147, g148, g149, g150, g151, g152, g153, g154, g155, g156, g157, g158, g159, g160, g161, g162, g163, g164, g165, g166, g167, g168, g169, g170, g171, g172, g173, g174, g175, g176, g177, g178, g179, g180, g181, g182, g183, g184, g185, g186, g187, g188, g189, g190, g191, g192, g193, g194, g195, g196, g197, g198, (.bool y199)], []⟩ S (fun v S1 => v = (.bool p.1) ∧ S1 = p.2) := by
  unfold J7 at h
  refine q_op (dst := some 4) rfl (fun _ ho => ok_assign ho (.tmp rfl)) ?_
  refine hr_region_end ?_
  try dsimp only [HAct.put, List.set_cons_zero, List.set_cons_succ]
  cases h
  exact q_ret e107 at_.at_ rfl (res1 rfl rfl) ⟨rfl, rfl⟩
def J6 (D : Dp) (H : Hd) (k : Nat) (y169 : Bool) (y198 : Bool) (S : HS) : Option ((Bool) × HS) :=
  (if y169 = true then
  J7 D H k y198 S else
  J7 D H k false S)
theorem J6_snd {D : Dp} {H : Hd} {k : Nat} (hD : DSound Try.prog base W0 D) (hH : HSound Try.prog base W0 β0 H)  {y169 : Bool} {y198 : Bool} {S : HS} {p : (Bool) × HS} {g0 g1 g2 g3 g4 g5 g6 g7 g8 g9 g10 g11 g12 g13 g14 g15 g16 g17 g18 g19 g20 g21 g22 g23 g24 g25 g26 g27 g28 g29 g30 g31 g32 g33 g34 g35 g36 g37 g38 g39 g40 g41 g42 g43 g44 g45 g46 g47 g48 g49 g50 g51 g52 g53 g54 g55 g56 g57 g58 g59 g60 g61 g62 g63 g64 g65 g66 g67 g68 g69 g70 g71 g72 g73 g74 g75 g76 g77 g78 g79 g80 g81 g82 g83 g84 g85 g86 g87 g88 g89 g90 g91 g92 g93 g94 g95 g96 g97 g98 g99 g100 g101 g102 g103 g104 g105 g106 g107 g108 g109 g110 g111 g112 g113 g114 g115 g116 g117 g118 g119 g120 g121 g122 g123 g124 g125 g126 g127 g128 g129 g130 g131 g132 g133 g134 g135 g136 g137 g138 g139 g140 g141 g142 g143 g144 g145 g146 g147 g148 g149 g150 g151 g152 g153 g154 g155 g156 g157 g158 g159 g160 g161 g162 g163 g164 g165 g166 g167 g168 g170 g171 g172 g173 g174 g175 g176 g177 g178 g179 g180 g181 g182 g183 g184 g185 g186 g187 g188 g189 g190 g191 g192 g193 g194 g195 g196 g197 g199 : HV} (h : J6 D H k y169 y198 S = some p) : HRun Try.prog base W0 β0 3 none [.inRegion r106 [35, 36], .code c107] ⟨[g0, g1, g2, g3, g4, g5, g6, g7, g8, g9, g10, g11, g12, g13, g14, g15, g16, g17, g18, g19, g20, g21, g22, g23, g24, g25, g26, g27, g28, g29, g30, g31, g32, g33, g34, g35, g36, g37, g38, g39, g40, g41, g42, g43, g44, g45, g46, g47, g48, g49, g50, g51, g52, g53, g54, g55, g56, g57, g58, g59, g60, g61, g62, g63, g64, g65, g66, g67, g68, g69, g70, g71, g72, g73, g74, g75, g76, g77, g78, g79, g80, g81, g82, g83, g84, g85, g86, g87, g88, g89, g90, g91, g92, g93, g94, g95, g96, g97, g98, g99, g100, g101, g102, g103, g104, g105, g106, g107, g108, g109, g110, g111, g112, g113, g114, g115, g116, g117, g118, g119, g120, g121, g122, g123, g124, g125, g126, g127, g128, g129, g130, g131, g132, g133, g134, g135, g136, g137, g138, g139, g140, g141, g142, g143, g144, g145, g146, g147, g148, g149, g150, g151, g152, g153, g154, g155, g156, g157, g158, g159, g160, g161, g162, g163, g164, g165, g166, g167, g168, (.bool y169), g170, g171, g172, g173, g174, g175, g176, g177, g178, g179, g180, g181, g182, g183, g184, g185, g186, g187, g188, g189, g190, g191, g192, g193, g194, g195, g196, g197, (.bool y198), g199], []⟩ S (fun v S1 => v = (.bool p.1) ∧ S1 = p.2) := by
  unfold J6 at h
  rcases ifc h with ⟨hc86, h⟩ | ⟨hc86, h⟩
  · refine q_op (dst := some 199) rfl (fun _ ho => ok_pick_tt ho (.tmp rfl) hc86 (.tmp rfl)) ?_
    try dsimp only [HAct.put, List.set_cons_zero, List.set_cons_succ]
    try dsimp only [HAct.put, List.set_cons_zero, List.set_cons_succ]
    exact J7_snd hD hH h
  · refine q_op (dst := some 199) rfl (fun _ ho => ok_pick_ff ho (.tmp rfl) (bfalse hc86) (.bool _)) ?_
    try dsimp only [HAct.put, List.set_cons_zero, List.set_cons_succ]
    try dsimp only [HAct.put, List.set_cons_zero, List.set_cons_succ]
    exact J7_snd hD hH h
def J9 (D : Dp) (H : Hd) (k : Nat) (y169 : Bool) (y180 : Bool) (y197 : Bool) (S : HS) : Option ((Bool) × HS) :=
  (if y169 = true then
  (if y180 = true then
  J6 D H k y169 true S else
  J6 D H k y169 y197 S) else
  J7 D H k false S)
theorem J9_snd {D : Dp} {H : Hd} {k : Nat} (hD : DSound Try.prog base W0 D) (hH : HSound Try.prog base W0 β0 H)  {y169 : Bool} {y180 : Bool} {y197 : Bool} {S : HS} {p : (Bool) × HS} {g0 g1 g2 g3 g4 g5 g6 g7 g8 g9 g10 g11 g12 g13 g14 g15 g16 g17 g18 g19 g20 g21 g22 g23 g24 g25 g26 g27 g28 g29 g30 g31 g32 g33 g34 g35 g36 g37 g38 g39 g40 g41 g42 g43 g44 g45 g46 g47 g48 g49 g50 g51 g52 g53 g54 g55 g56 g57 g58 g59 g60 g61 g62 g63 g64 g65 g66 g67 g68 g69 g70 g71 g72 g73 g74 g75 g76 g77 g78 g79 g80 g81 g82 g83 g84 g85 g86 g87 g88 g89 g90 g91 g92 g93 g94 g95 g96 g97 g98 g99 g100 g101 g102 g103 g104 g105 g106 g107 g108 g109 g110 g111 g112 g113 g114 g115 g116 g117 g118 g119 g120 g121 g122 g123 g124 g125 g126 g127 g128 g129 g130 g131 g132 g133 g134 g135 g136 g137 g138 g139 g140 g141 g142 g143 g144 g145 g146 g147 g148 g149 g150 g151 g152 g153 g154 g155 g156 g157 g158 g159 g160 g161 g162 g163 g164 g165 g166 g167 g168 g170 g171 g172 g173 g174 g175 g176 g177 g178 g179 g181 g182 g183 g184 g185 g186 g187 g188 g189 g190 g191 g192 g193 g194 g195 g196 g198 g199 : HV} (h : J9 D H k y169 y180 y197 S = some p) : HRun Try.prog base W0 β0 3 none [.inRegion r106 [34, 35, 36], .code c107] ⟨[g0, g1, g2, g3, g4, g5, g6, g7, g8, g9, g10, g11, g12, g13, g14, g15, g16, g17, g18, g19, g20, g21, g22, g23, g24, g25, g26, g27, g28, g29, g30, g31, g32, g33, g34, g35, g36, g37, g38, g39, g40, g41, g42, g43, g44, g45, g46, g47, g48, g49, g50, g51, g52, g53, g54, g55, g56, g57, g58, g59, g60, g61, g62, g63, g64, g65, g66, g67, g68, g69, g70, g71, g72, g73, g74, g75, g76, g77, g78, g79, g80, g81, g82, g83, g84, g85, g86, g87, g88, g89, g90, g91, g92, g93, g94, g95, g96, g97, g98, g99, g100, g101, g102, g103, g104, g105, g106, g107, g108, g109, g110, g111, g112, g113, g114, g115, g116, g117, g118, g119, g120, g121, g122, g123, g124, g125, g126, g127, g128, g129, g130, g131, g132, g133, g134, g135, g136, g137, g138, g139, g140, g141, g142, g143, g144, g145, g146, g147, g148, g149, g150, g151, g152, g153, g154, g155, g156, g157, g158, g159, g160, g161, g162, g163, g164, g165, g166, g167, g168, (.bool y169), g170, g171, g172, g173, g174, g175, g176, g177, g178, g179, (.bool y180), g181, g182, g183, g184, g185, g186, g187, g188, g189, g190, g191, g192, g193, g194, g195, g196, (.bool y197), g198, g199], []⟩ S (fun v S1 => v = (.bool p.1) ∧ S1 = p.2) := by
  unfold J9 at h
  rcases ifc h with ⟨hc95, h⟩ | ⟨hc95, h⟩
  · rcases ifc h with ⟨hc96, h⟩ | ⟨hc96, h⟩
    · refine q_op_g (t := 169) (dst := some 198) rfl rfl rfl hc95 (fun _ ho => ok_pick_tt ho (.tmp rfl) hc96 (.bool _)) ?_
      try dsimp only [HAct.put, List.set_cons_zero, List.set_cons_succ]
      exact J6_snd hD hH h
    · refine q_op_g (t := 169) (dst := some 198) rfl rfl rfl hc95 (fun _ ho => ok_pick_ff ho (.tmp rfl) (bfalse hc96) (.tmp rfl)) ?_
      try dsimp only [HAct.put, List.set_cons_zero, List.set_cons_succ]
      exact J6_snd hD hH h
  · refine q_skip (dst := some 198) (t := 169) rfl rfl rfl (bfalse hc95) ?_
    refine q_op (dst := some 199) rfl (fun _ ho => ok_pick_ff ho (.tmp rfl) (bfalse hc95) (.bool _)) ?_
    try dsimp only [HAct.put, List.set_cons_zero, List.set_cons_succ]
    try dsimp only [HAct.put, List.set_cons_zero, List.set_cons_succ]
    exact J7_snd hD hH h
def J8 (D : Dp) (H : Hd) (k : Nat) (y16 : Int) (y18 : Sl) (y169 : Bool) (y180 : Bool) (y189 : Bool) (S : HS) : Option ((Bool) × HS) :=
  (if y180 = true then
  (if y169 = true then
  J6 D H k y169 true S else
  J7 D H k false S) else
  (if y189 = true then
  (Option.bind (HS.idx S y18 0 2) fun p93 =>
  (Option.bind (HS.ldI S .i64 (HA.fld p93 1)) fun p94 =>
  J9 D H k y169 y180 (decide (y16 = p94)) S)) else
  J9 D H k y169 y180 false S))
theorem J8_snd {D : Dp} {H : Hd} {k : Nat} (hD : DSound Try.prog base W0 D) (hH : HSound Try.prog base W0 β0 H)  {y16 : Int} {y18 : Sl} {y169 : Bool} {y180 : Bool} {y189 : Bool} {S : HS} {p : (Bool) × HS} {g0 g1 g2 g3 g4 g5 g6 g7 g8 g9 g10 g11 g12 g13 g14 g15 g17 g19 g20 g21 g22 g23 g24 g25 g26 g27 g28 g29 g30 g31 g32 g33 g34 g35 g36 g37 g38 g39 g40 g41 g42 g43 g44 g45 g46 g47 g48 g49 g50 g51 g52 g53 g54 g55 g56 g57 g58 g59 g60 g61 g62 g63 g64 g65 g66 g67 g68 g69 g70 g71 g72 g73 g74 g75 g76 g77 g78 g79 g80 g81 g82 g83 g84 g85 g86 g87 g88 g89 g90 g91 g92 g93 g94 g95 g96 g97 g98 g99 g100 g101 g102 g103 g104 g105 g106 g107 g108 g109 g110 g111 g112 g113 g114 g115 g116 g117 g118 g119 g120 g121 g122 g123 g124 g125 g126 g127 g128 g129 g130 g131 g132 g133 g134 g135 g136 g137 g138 g139 g140 g141 g142 g143 g144 g145 g146 g147 g148 g149 g150 g151 g152 g153 g154 g155 g156 g157 g158 g159 g160 g161 g162 g163 g164 g165 g166 g167 g168 g170 g171 g172 g173 g174 g175 g176 g177 g178 g179 g181 g182 g183 g184 g185 g186 g187 g188 g190 g191 g192 g193 g194 g195 g196 g197 g198 g199 : HV} (h : J8 D H k y16 y18 y169 y180 y189 S = some p) : HRun Try.prog base W0 β0 3 none [.inRegion r106 [26, 27, 28, 29, 30, 31, 32, 33, 34, 35, 36], .code c107] ⟨[g0, g1, g2, g3, g4, g5, g6, g7, g8, g9, g10, g11, g12, g13, g14, g15, (.int .i64 y16), g17, (Sl.hv y18), g19, g20, g21, g22, g23, g24, g25, g26, g27, g28, g29, g30, g31, g32, g33, g34, g35, g36, g37, g38, g39, g40, g41, g42, g43, g44, g45, g46, g47, g48, g49, g50, g51, g52, g53, g54, g55, g56, g57, g58, g59, g60, g61, g62, g63, g64, g65, g66, g67, g68, g69, g70, g71, g72, g73, g74, g75, g76, g77, g78, g79, g80, g81, g82, g83, g84, g85, g86, g87, g88, g89, g90, g91, g92, g93, g94, g95, g96, g97, g98, g99, g100, g101, g102, g103, g104, g105, g106, g107, g108, g109, g110, g111, g112, g113, g114, g115, g116, g117, g118, g119, g120, g121, g122, g123, g124, g125, g126, g127, g128, g129, g130, g131, g132, g133, g134, g135, g136, g137, g138, g139, g140, g141, g142, g143, g144, g145, g146, g147, g148, g149, g150, g151, g152, g153, g154, g155, g156, g157, g158, g159, g160, g161, g162, g163, g164, g165, g166, g167, g168, (.bool y169), g170, g171, g172, g173, g174, g175, g176, g177, g178, g179, (.bool y180), g181, g182, g183, g184, g185, g186, g187, g188, (.bool y189), g190, g191, g192, g193, g194, g195, g196, g197, g198, g199], []⟩ S (fun v S1 => v = (.bool p.1) ∧ S1 = p.2) := by
  unfold J8 at h
  rcases ifc h with ⟨hc90, h⟩ | ⟨hc90, h⟩
  · refine q_skip (dst := some 190) (t := 180) rfl rfl rfl hc90 ?_
    refine q_skip_u (dst := some 191) (t := 190) rfl rfl rfl ?_
    try dsimp only [HAct.put, List.set_cons_zero, List.set_cons_succ]
    refine q_skip_u (dst := some 192) (t := 190) rfl rfl rfl ?_
    refine q_skip_u (dst := some 193) (t := 190) rfl rfl rfl ?_
    refine q_skip_u (dst := some 194) (t := 190) rfl rfl rfl ?_
    refine q_skip_u (dst := some 195) (t := 190) rfl rfl rfl ?_
    try dsimp only [HAct.put, List.set_cons_zero, List.set_cons_succ]
    refine q_skip_u (dst := some 196) (t := 190) rfl rfl rfl ?_
    refine q_skip (dst := some 197) (t := 180) rfl rfl rfl hc90 ?_
    rcases ifc h with ⟨hc91, h⟩ | ⟨hc91, h⟩
    · refine q_op_g (t := 169) (dst := some 198) rfl rfl rfl hc91 (fun _ ho => ok_pick_tt ho (.tmp rfl) hc90 (.bool _)) ?_
      try dsimp only [HAct.put, List.set_cons_zero, List.set_cons_succ]
      exact J6_snd hD hH h
    · refine q_skip (dst := some 198) (t := 169) rfl rfl rfl (bfalse hc91) ?_
      refine q_op (dst := some 199) rfl (fun _ ho => ok_pick_ff ho (.tmp rfl) (bfalse hc91) (.bool _)) ?_
      try dsimp only [HAct.put, List.set_cons_zero, List.set_cons_succ]
      try dsimp only [HAct.put, List.set_cons_zero, List.set_cons_succ]
      exact J7_snd hD hH h
  · refine q_op_g (t := 180) (dst := some 190) rfl rfl rfl (bfalse hc90) (fun _ ho => ok_move ho (.tmp rfl)) ?_
    rcases ifc h with ⟨hc92, h⟩ | ⟨hc92, h⟩
    · refine q_op_g (t := 190) (dst := some 191) rfl rfl rfl hc92 (fun _ ho => ok_move ho (.tmp rfl)) ?_
      try dsimp only [HAct.put, List.set_cons_zero, List.set_cons_succ]
      refine q_op_g (t := 190) (dst := some 192) rfl rfl rfl hc92 (fun _ ho => ok_move ho (.tmp rfl)) ?_
      obtain ⟨p93, hp93, h⟩ := bindo h
      refine q_op_g (t := 190) (dst := some 193) rfl rfl rfl hc92 (fun _ ho => ok_indexAddr (s := y18) ho tu28 sz38 (.tmp rfl) (.int _ _) hp93) ?_
      refine q_op_g (t := 190) (dst := some 194) rfl rfl rfl hc92 (fun _ ho => ok_fieldAddr_s ho fi38_1 (by decide) (.tmp rfl) rfl) ?_
      obtain ⟨p94, hp94, h⟩ := bindo h
      refine q_op_g (t := 190) (dst := some 195) rfl rfl rfl hc92 (fun _ ho => ok_load_s ho sc3 (.tmp rfl) rfl (ldI_out hp94)) ?_
      try dsimp only [HAct.put, List.set_cons_zero, List.set_cons_succ]
      refine q_op_g (t := 190) (dst := some 196) rfl rfl rfl hc92 (fun _ ho => ok_ibin ho (.tmp rfl) (.tmp rfl) rfl) ?_
      refine q_op_g (t := 180) (dst := some 197) rfl rfl rfl (bfalse hc90) (fun _ ho => ok_pick_tt ho (.tmp rfl) hc92 (.tmp rfl)) ?_
      try dsimp only [HAct.put, List.set_cons_zero, List.set_cons_succ]
      exact J9_snd hD hH h
    · refine q_skip (dst := some 191) (t := 190) rfl rfl rfl (bfalse hc92) ?_
      try dsimp only [HAct.put, List.set_cons_zero, List.set_cons_succ]
      refine q_skip (dst := some 192) (t := 190) rfl rfl rfl (bfalse hc92) ?_
      refine q_skip (dst := some 193) (t := 190) rfl rfl rfl (bfalse hc92) ?_
      refine q_skip (dst := some 194) (t := 190) rfl rfl rfl (bfalse hc92) ?_
      refine q_skip (dst := some 195) (t := 190) rfl rfl rfl (bfalse hc92) ?_
      try dsimp only [HAct.put, List.set_cons_zero, List.set_cons_succ]
      refine q_skip (dst := some 196) (t := 190) rfl rfl rfl (bfalse hc92) ?_
      refine q_op_g (t := 180) (dst := some 197) rfl rfl rfl (bfalse hc90) (fun _ ho => ok_pick_ff ho (.tmp rfl) (bfalse hc92) (.bool _)) ?_
      try dsimp only [HAct.put, List.set_cons_zero, List.set_cons_succ]
      exact J9_snd hD hH h
def J5 (D : Dp) (H : Hd) (k : Nat) (y15 : (List UInt8)) (y16 : Int) (y17 : Bool) (y18 : Sl) (y169 : Bool) (y179 : Bool) (S : HS) : Option ((Bool) × HS) :=
  (if y169 = true then
  (if y179 = true then
  J6 D H k y169 true S else
  (if y17 = true then
  (Option.bind (HS.idx S y18 0 2) fun p88 =>
  (Option.bind (HS.ldS S (HA.fld p88 0)) fun p89 =>
  J8 D H k y16 y18 y169 y179 (decide (y15 = p89)) S)) else
  J8 D H k y16 y18 y169 y179 false S)) else
  J7 D H k false S)
theorem J5_snd {D : Dp} {H : Hd} {k : Nat} (hD : DSound Try.prog base W0 D) (hH : HSound Try.prog base W0 β0 H)  {y15 : (List UInt8)} {y16 : Int} {y17 : Bool} {y18 : Sl} {y169 : Bool} {y179 : Bool} {S : HS} {p : (Bool) × HS} {g0 g1 g2 g3 g4 g5 g6 g7 g8 g9 g10 g11 g12 g13 g14 g19 g20 g21 g22 g23 g24 g25 g26 g27 g28 g29 g30 g31 g32 g33 g34 g35 g36 g37 g38 g39 g40 g41 g42 g43 g44 g45 g46 g47 g48 g49 g50 g51 g52 g53 g54 g55 g56 g57 g58 g59 g60 g61 g62 g63 g64 g65 g66 g67 g68 g69 g70 g71 g72 g73 g74 g75 g76 g77 g78 g79 g80 g81 g82 g83 g84 g85 g86 g87 g88 g89 g90 g91 g92 g93 g94 g95 g96 g97 g98 g99 g100 g101 g102 g103 g104 g105 g106 g107 g108 g109 g110 g111 g112 g113 g114 g115 g116 g117 g118 g119 g120 g121 g122 g123 g124 g125 g126 g127 g128 g129 g130 g131 g132 g133 g134 g135 g136 g137 g138 g139 g140 g141 g142 g143 g144 g145 g146 g147 g148 g149 g150 g151 g152 g153 g154 g155 g156 g157 g158 g159 g160 g161 g162 g163 g164 g165 g166 g167 g168 g170 g171 g172 g173 g174 g175 g176 g177 g178 g180 g181 g182 g183 g184 g185 g186 g187 g188 g189 g190 g191 g192 g193 g194 g195 g196 g197 g198 g199 : HV} (h : J5 D H k y15 y16 y17 y18 y169 y179 S = some p) : HRun Try.prog base W0 β0 3 none [.inRegion r106 [16, 17, 18, 19, 20, 21, 22, 23, 24, 25, 26, 27, 28, 29, 30, 31, 32, 33, 34, 35, 36], .code c107] ⟨[g0, g1, g2, g3, g4, g5, g6, g7, g8, g9, g10, g11, g12, g13, g14, (.str y15), (.int .i64 y16), (.bool y17), (Sl.hv y18), g19, g20, g21, g22, g23, g24, g25, g26, g27, g28, g29, g30, g31, g32, g33, g34, g35, g36, g37, g38, g39, g40, g41, g42, g43, g44, g45, g46, g47, g48, g49, g50, g51, g52, g53, g54, g55, g56, g57, g58, g59, g60, g61, g62, g63, g64, g65, g66, g67, g68, g69, g70, g71, g72, g73, g74, g75, g76, g77, g78, g79, g80, g81, g82, g83, g84, g85, g86, g87, g88, g89, g90, g91, g92, g93, g94, g95, g96, g97, g98, g99, g100, g101, g102, g103, g104, g105, g106, g107, g108, g109, g110, g111, g112, g113, g114, g115, g116, g117, g118, g119, g120, g121, g122, g123, g124, g125, g126, g127, g128, g129, g130, g131, g132, g133, g134, g135, g136, g137, g138, g139, g140, g141, g142, g143, g144, g145, g146, g147, g148, g149, g150, g151, g152, g153, g154, g155, g156, g157, g158, g159, g160, g161, g162, g163, g164, g165, g166, g167, g168, (.bool y169), g170, g171, g172, g173, g174, g175, g176, g177, g178, (.bool y179), g180, g181, g182, g183, g184, g185, g186, g187, g188, g189, g190, g191, g192, g193, g194, g195, g196, g197, g198, g199], []⟩ S (fun v S1 => v = (.bool p.1) ∧ S1 = p.2) := by
  unfold J5 at h
  rcases ifc h with ⟨hc84, h⟩ | ⟨hc84, h⟩
  · refine q_op_g (t := 169) (dst := some 180) rfl rfl rfl hc84 (fun _ ho => ok_move ho (.tmp rfl)) ?_
    rcases ifc h with ⟨hc85, h⟩ | ⟨hc85, h⟩
    · refine q_skip (dst := some 181) (t := 180) rfl rfl rfl hc85 ?_
      refine q_skip (dst := some 182) (t := 180) rfl rfl rfl hc85 ?_
      refine q_skip_u (dst := some 183) (t := 182) rfl rfl rfl ?_
      try dsimp only [HAct.put, List.set_cons_zero, List.set_cons_succ]
      refine q_skip_u (dst := some 184) (t := 182) rfl rfl rfl ?_
      refine q_skip_u (dst := some 185) (t := 182) rfl rfl rfl ?_
      refine q_skip_u (dst := some 186) (t := 182) rfl rfl rfl ?_
      refine q_skip_u (dst := some 187) (t := 182) rfl rfl rfl ?_
      try dsimp only [HAct.put, List.set_cons_zero, List.set_cons_succ]
      refine q_skip_u (dst := some 188) (t := 182) rfl rfl rfl ?_
      refine q_skip (dst := some 189) (t := 180) rfl rfl rfl hc85 ?_
      refine q_skip (dst := some 190) (t := 180) rfl rfl rfl hc85 ?_
      refine q_skip_u (dst := some 191) (t := 190) rfl rfl rfl ?_
      try dsimp only [HAct.put, List.set_cons_zero, List.set_cons_succ]
      refine q_skip_u (dst := some 192) (t := 190) rfl rfl rfl ?_
      refine q_skip_u (dst := some 193) (t := 190) rfl rfl rfl ?_
      refine q_skip_u (dst := some 194) (t := 190) rfl rfl rfl ?_
      refine q_skip_u (dst := some 195) (t := 190) rfl rfl rfl ?_
      try dsimp only [HAct.put, List.set_cons_zero, List.set_cons_succ]
      refine q_skip_u (dst := some 196) (t := 190) rfl rfl rfl ?_
      refine q_skip (dst := some 197) (t := 180) rfl rfl rfl hc85 ?_
      refine q_op_g (t := 169) (dst := some 198) rfl rfl rfl hc84 (fun _ ho => ok_pick_tt ho (.tmp rfl) hc85 (.bool _)) ?_
      try dsimp only [HAct.put, List.set_cons_zero, List.set_cons_succ]
      exact J6_snd hD hH h
    · refine q_op_g (t := 180) (dst := some 181) rfl rfl rfl (bfalse hc85) (fun _ ho => ok_move ho (.tmp rfl)) ?_
      refine q_op_g (t := 180) (dst := some 182) rfl rfl rfl (bfalse hc85) (fun _ ho => ok_move ho (.tmp rfl)) ?_
      rcases ifc h with ⟨hc87, h⟩ | ⟨hc87, h⟩
      · refine q_op_g (t := 182) (dst := some 183) rfl rfl rfl hc87 (fun _ ho => ok_move ho (.tmp rfl)) ?_
        try dsimp only [HAct.put, List.set_cons_zero, List.set_cons_succ]
        refine q_op_g (t := 182) (dst := some 184) rfl rfl rfl hc87 (fun _ ho => ok_move ho (.tmp rfl)) ?_
        obtain ⟨p88, hp88, h⟩ := bindo h
        refine q_op_g (t := 182) (dst := some 185) rfl rfl rfl hc87 (fun _ ho => ok_indexAddr (s := y18) ho tu28 sz38 (.tmp rfl) (.int _ _) hp88) ?_
        refine q_op_g (t := 182) (dst := some 186) rfl rfl rfl hc87 (fun _ ho => ok_fieldAddr_s ho fi38_0 (by decide) (.tmp rfl) rfl) ?_
        obtain ⟨p89, hp89, h⟩ := bindo h
        refine q_op_g (t := 182) (dst := some 187) rfl rfl rfl hc87 (fun _ ho => ok_load_s ho sc9 (.tmp rfl) rfl (ldS_out hp89)) ?_
        try dsimp only [HAct.put, List.set_cons_zero, List.set_cons_succ]
        refine q_op_g (t := 182) (dst := some 188) rfl rfl rfl hc87 (fun _ ho => ok_sbin ho (.tmp rfl) (.tmp rfl) rfl) ?_
        refine q_op_g (t := 180) (dst := some 189) rfl rfl rfl (bfalse hc85) (fun _ ho => ok_pick_tt ho (.tmp rfl) hc87 (.tmp rfl)) ?_
        try dsimp only [HAct.put, List.set_cons_zero, List.set_cons_succ]
        exact J8_snd hD hH h
      · refine q_skip (dst := some 183) (t := 182) rfl rfl rfl (bfalse hc87) ?_
        try dsimp only [HAct.put, List.set_cons_zero, List.set_cons_succ]
        refine q_skip (dst := some 184) (t := 182) rfl rfl rfl (bfalse hc87) ?_
        refine q_skip (dst := some 185) (t := 182) rfl rfl rfl (bfalse hc87) ?_
        refine q_skip (dst := some 186) (t := 182) rfl rfl rfl (bfalse hc87) ?_
        refine q_skip (dst := some 187) (t := 182) rfl rfl rfl (bfalse hc87) ?_
        try dsimp only [HAct.put, List.set_cons_zero, List.set_cons_succ]
        refine q_skip (dst := some 188) (t := 182) rfl rfl rfl (bfalse hc87) ?_
        refine q_op_g (t := 180) (dst := some 189) rfl rfl rfl (bfalse hc85) (fun _ ho => ok_pick_ff ho (.tmp rfl) (bfalse hc87) (.bool _)) ?_
        try dsimp only [HAct.put, List.set_cons_zero, List.set_cons_succ]
        exact J8_snd hD hH h
  · refine q_skip (dst := some 180) (t := 169) rfl rfl rfl (bfalse hc84) ?_
    refine q_skip_u (dst := some 181) (t := 180) rfl rfl rfl ?_
    refine q_skip_u (dst := some 182) (t := 180) rfl rfl rfl ?_
    refine q_skip_u (dst := some 183) (t := 182) rfl rfl rfl ?_
    try dsimp only [HAct.put, List.set_cons_zero, List.set_cons_succ]
    refine q_skip_u (dst := some 184) (t := 182) rfl rfl rfl ?_
    refine q_skip_u (dst := some 185) (t := 182) rfl rfl rfl ?_
    refine q_skip_u (dst := some 186) (t := 182) rfl rfl rfl ?_
    refine q_skip_u (dst := some 187) (t := 182) rfl rfl rfl ?_
    try dsimp only [HAct.put, List.set_cons_zero, List.set_cons_succ]
    refine q_skip_u (dst := some 188) (t := 182) rfl rfl rfl ?_
    refine q_skip_u (dst := some 189) (t := 180) rfl rfl rfl ?_
    refine q_skip_u (dst := some 190) (t := 180) rfl rfl rfl ?_
    refine q_skip_u (dst := some 191) (t := 190) rfl rfl rfl ?_
    try dsimp only [HAct.put, List.set_cons_zero, List.set_cons_succ]
    refine q_skip_u (dst := some 192) (t := 190) rfl rfl rfl ?_
    refine q_skip_u (dst := some 193) (t := 190) rfl rfl rfl ?_
    refine q_skip_u (dst := some 194) (t := 190) rfl rfl rfl ?_
    refine q_skip_u (dst := some 195) (t := 190) rfl rfl rfl ?_
    try dsimp only [HAct.put, List.set_cons_zero, List.set_cons_succ]
    refine q_skip_u (dst := some 196) (t := 190) rfl rfl rfl ?_
    refine q_skip_u (dst := some 197) (t := 180) rfl rfl rfl ?_
    refine q_skip (dst := some 198) (t := 169) rfl rfl rfl (bfalse hc84) ?_
    refine q_op (dst := some 199) rfl (fun _ ho => ok_pick_ff ho (.tmp rfl) (bfalse hc84) (.bool _)) ?_
    try dsimp only [HAct.put, List.set_cons_zero, List.set_cons_succ]
    try dsimp only [HAct.put, List.set_cons_zero, List.set_cons_succ]
    exact J7_snd hD hH h
def J4 (D : Dp) (H : Hd) (k : Nat) (y15 : (List UInt8)) (y16 : Int) (y17 : Bool) (y18 : Sl) (y169 : Bool) (y175 : Bool) (S : HS) : Option ((Bool) × HS) :=
  (if y169 = true then
  (if y175 = true then
  J5 D H k y15 y16 y17 y18 y169 (decide (y16 = 0)) S else
  J5 D H k y15 y16 y17 y18 y169 false S) else
  J7 D H k false S)
theorem J4_snd {D : Dp} {H : Hd} {k : Nat} (hD : DSound Try.prog base W0 D) (hH : HSound Try.prog base W0 β0 H)  {y15 : (List UInt8)} {y16 : Int} {y17 : Bool} {y18 : Sl} {y169 : Bool} {y175 : Bool} {S : HS} {p : (Bool) × HS} {g0 g1 g2 g3 g4 g5 g6 g7 g8 g9 g10 g11 g12 g13 g14 g19 g20 g21 g22 g23 g24 g25 g26 g27 g28 g29 g30 g31 g32 g33 g34 g35 g36 g37 g38 g39 g40 g41 g42 g43 g44 g45 g46 g47 g48 g49 g50 g51 g52 g53 g54 g55 g56 g57 g58 g59 g60 g61 g62 g63 g64 g65 g66 g67 g68 g69 g70 g71 g72 g73 g74 g75 g76 g77 g78 g79 g80 g81 g82 g83 g84 g85 g86 g87 g88 g89 g90 g91 g92 g93 g94 g95 g96 g97 g98 g99 g100 g101 g102 g103 g104 g105 g106 g107 g108 g109 g110 g111 g112 g113 g114 g115 g116 g117 g118 g119 g120 g121 g122 g123 g124 g125 g126 g127 g128 g129 g130 g131 g132 g133 g134 g135 g136 g137 g138 g139 g140 g141 g142 g143 g144 g145 g146 g147 g148 g149 g150 g151 g152 g153 g154 g155 g156 g157 g158 g159 g160 g161 g162 g163 g164 g165 g166 g167 g168 g170 g171 g172 g173 g174 g176 g177 g178 g179 g180 g181 g182 g183 g184 g185 g186 g187 g188 g189 g190 g191 g192 g193 g194 g195 g196 g197 g198 g199 : HV} (h : J4 D H k y15 y16 y17 y18 y169 y175 S = some p) : HRun Try.prog base W0 β0 3 none [.inRegion r106 [12, 13, 14, 15, 16, 17, 18, 19, 20, 21, 22, 23, 24, 25, 26, 27, 28, 29, 30, 31, 32, 33, 34, 35, 36], .code c107] ⟨[g0, g1, g2, g3, g4, g5, g6, g7, g8, g9, g10, g11, g12, g13, g14, (.str y15), (.int .i64 y16), (.bool y17), (Sl.hv y18), g19, g20, g21, g22, g23, g24, g25, g26, g27, g28, g29, g30, g31, g32, g33, g34, g35, g36, g37, g38, g39, g40, g41, g42, g43, g44, g45, g46, g47, g48, g49, g50, g51, g52, g53, g54, g55, g56, g57, g58, g59, g60, g61, g62, g63, g64, g65, g66, g67, g68, g69, g70, g71, g72, g73, g74, g75, g76, g77, g78, g79, g80, g81, g82, g83, g84, g85, g86, g87, g88, g89, g90, g91, g92, g93, g94, g95, g96, g97, g98, g99, g100, g101, g102, g103, g104, g105, g106, g107, g108, g109, g110, g111, g112, g113, g114, g115, g116, g117, g118, g119, g120, g121, g122, g123, g124, g125, g126, g127, g128, g129, g130, g131, g132, g133, g134, g135, g136, g137, g138, g139, g140, g141, g142, g143, g144, g145, g146, g147, g148, g149, g150, g151, g152, g153, g154, g155, g156, g157, g158, g159, g160, g161, g162, g163, g164, g165, g166, g167, g168, (.bool y169), g170, g171, g172, g173, g174, (.bool y175), g176, g177, g178, g179, g180, g181, g182, g183, g184, g185, g186, g187, g188, g189, g190, g191, g192, g193, g194, g195, g196, g197, g198, g199], []⟩ S (fun v S1 => v = (.bool p.1) ∧ S1 = p.2) := by
  unfold J4 at h
  rcases ifc h with ⟨hc82, h⟩ | ⟨hc82, h⟩
  · refine q_op_g (t := 169) (dst := some 176) rfl rfl rfl hc82 (fun _ ho => ok_move ho (.tmp rfl)) ?_
    rcases ifc h with ⟨hc83, h⟩ | ⟨hc83, h⟩
    · refine q_op_g (t := 176) (dst := some 177) rfl rfl rfl hc83 (fun _ ho => ok_move ho (.tmp rfl)) ?_
      refine q_op_g (t := 176) (dst := some 178) rfl rfl rfl hc83 (fun _ ho => ok_ibin ho (.tmp rfl) (.int _ _) rfl) ?_
      refine q_op_g (t := 169) (dst := some 179) rfl rfl rfl hc82 (fun _ ho => ok_pick_tt ho (.tmp rfl) hc83 (.tmp rfl)) ?_
      try dsimp only [HAct.put, List.set_cons_zero, List.set_cons_succ]
      try dsimp only [HAct.put, List.set_cons_zero, List.set_cons_succ]
      exact J5_snd hD hH h
    · refine q_skip (dst := some 177) (t := 176) rfl rfl rfl (bfalse hc83) ?_
      refine q_skip (dst := some 178) (t := 176) rfl rfl rfl (bfalse hc83) ?_
      refine q_op_g (t := 169) (dst := some 179) rfl rfl rfl hc82 (fun _ ho => ok_pick_ff ho (.tmp rfl) (bfalse hc83) (.bool _)) ?_
      try dsimp only [HAct.put, List.set_cons_zero, List.set_cons_succ]
      try dsimp only [HAct.put, List.set_cons_zero, List.set_cons_succ]
      exact J5_snd hD hH h
  · refine q_skip (dst := some 176) (t := 169) rfl rfl rfl (bfalse hc82) ?_
    refine q_skip_u (dst := some 177) (t := 176) rfl rfl rfl ?_
    refine q_skip_u (dst := some 178) (t := 176) rfl rfl rfl ?_
    refine q_skip (dst := some 179) (t := 169) rfl rfl rfl (bfalse hc82) ?_
    try dsimp only [HAct.put, List.set_cons_zero, List.set_cons_succ]
    refine q_skip (dst := some 180) (t := 169) rfl rfl rfl (bfalse hc82) ?_
    refine q_skip_u (dst := some 181) (t := 180) rfl rfl rfl ?_
    refine q_skip_u (dst := some 182) (t := 180) rfl rfl rfl ?_
    refine q_skip_u (dst := some 183) (t := 182) rfl rfl rfl ?_
    try dsimp only [HAct.put, List.set_cons_zero, List.set_cons_succ]
    refine q_skip_u (dst := some 184) (t := 182) rfl rfl rfl ?_
    refine q_skip_u (dst := some 185) (t := 182) rfl rfl rfl ?_
    refine q_skip_u (dst := some 186) (t := 182) rfl rfl rfl ?_
    refine q_skip_u (dst := some 187) (t := 182) rfl rfl rfl ?_
    try dsimp only [HAct.put, List.set_cons_zero, List.set_cons_succ]
    refine q_skip_u (dst := some 188) (t := 182) rfl rfl rfl ?_
    refine q_skip_u (dst := some 189) (t := 180) rfl rfl rfl ?_
    refine q_skip_u (dst := some 190) (t := 180) rfl rfl rfl ?_
    refine q_skip_u (dst := some 191) (t := 190) rfl rfl rfl ?_
    try dsimp only [HAct.put, List.set_cons_zero, List.set_cons_succ]
    refine q_skip_u (dst := some 192) (t := 190) rfl rfl rfl ?_
    refine q_skip_u (dst := some 193) (t := 190) rfl rfl rfl ?_
    refine q_skip_u (dst := some 194) (t := 190) rfl rfl rfl ?_
    refine q_skip_u (dst := some 195) (t := 190) rfl rfl rfl ?_
    try dsimp only [HAct.put, List.set_cons_zero, List.set_cons_succ]
    refine q_skip_u (dst := some 196) (t := 190) rfl rfl rfl ?_
    refine q_skip_u (dst := some 197) (t := 180) rfl rfl rfl ?_
    refine q_skip (dst := some 198) (t := 169) rfl rfl rfl (bfalse hc82) ?_
    refine q_op (dst := some 199) rfl (fun _ ho => ok_pick_ff ho (.tmp rfl) (bfalse hc82) (.bool _)) ?_
    try dsimp only [HAct.put, List.set_cons_zero, List.set_cons_succ]
    try dsimp only [HAct.put, List.set_cons_zero, List.set_cons_succ]
    exact J7_snd hD hH h
def L0 (D : Dp) (H : Hd) (k : Nat) : Nat → Sl → Int → (Option HA) → (Option HA) → Int → HS → Option ((Bool) × HS)
  | 0, _, _, _, _, _, _ => none
  | n + 1, y0, y1, y5, y6, y7, S =>
    (if y7 < (Sl.len y0 : Int) then
    (Option.bind (HS.idx S y0 y7 3) fun p8 =>
    (Option.bind (HS.ldI S .i64 (HA.fld p8 0)) fun p9 =>
    (Option.bind (HS.ldS S (HA.fld p8 1)) fun p10 =>
    (Option.bind (HS.ldI S .i64 (HA.fld p8 2)) fun p11 =>
    (letv (HS.new S (.cells 3 [[(.int .i64 0), (.str []), (.int .i64 0)]] true)) fun p12 =>
    (Option.bind (HS.sets p12 (HA.cell0 S.next) [(.int .i64 p9), (.str p10), (.int .i64 p11)]) fun p13 =>
    (Option.bind (HS.ldI p13 .i64 (HA.fld (HA.cell0 S.next) 0)) fun p14 =>
    (if p14 = 1 then
    (Option.bind (HS.ldS p13 (HA.fld (HA.cell0 S.next) 1)) fun p16 =>
    (Option.bind (timer_Table_string_Stop.f D H k y5 p16 p13) fun p17 =>
    (Option.bind (HS.ldS p17.2 (HA.fld (HA.cell0 S.next) 1)) fun p18 =>
    (Option.bind (HS.ldS p13 (HA.fld (HA.cell0 S.next) 1)) fun p19 =>
    (if p19 = p18 then
    (Option.bind (rollcallref09_Table_Stop.f k y6 p18 p17.2) fun p21 =>
    (if (!(p17.1 == p21.1)) = true then
    some (false, p21.2) else
    J1 D H k (L0 D H k n) y0 y1 y5 y6 y7 (some (HA.cell0 S.next)) p21.2)) else none))))) else
    (if p14 = 2 then
    (Option.bind (HS.ldI p13 .i64 (HA.fld (HA.cell0 S.next) 2)) fun p56 =>
    (Option.bind (timer_Table_string_Take.f D H k y5 p56 p13) fun p57 =>
    (Option.bind (HS.ldI p57.2 .i64 (HA.fld (HA.cell0 S.next) 2)) fun p58 =>
    (Option.bind (HS.ldI p13 .i64 (HA.fld (HA.cell0 S.next) 2)) fun p59 =>
    (if p59 = p58 then
    (Option.bind (rollcallref09_Table_Due.f k y6 p58 p57.2) fun p61 =>
    (if (!decide ((Sl.len p57.1 : Int) = (Sl.len p61.1 : Int))) = true then
    some (false, p61.2) else
    L3 D H k (L0 D H k n) k y0 y1 y5 y6 y7 (some (HA.cell0 S.next)) p57.1 p61.1 0 p61.2)) else none))))) else
    (Option.bind (HS.ldS p13 (HA.fld (HA.cell0 S.next) 1)) fun p72 =>
    (Option.bind (HS.ldI p13 .i64 (HA.fld (HA.cell0 S.next) 2)) fun p73 =>
    (Option.bind (timer_Table_string_Set.f D H k y5 p72 p73 p13) fun p74 =>
    (Option.bind (HS.ldS p74.2 (HA.fld (HA.cell0 S.next) 1)) fun p75 =>
    (Option.bind (HS.ldI p74.2 .i64 (HA.fld (HA.cell0 S.next) 2)) fun p76 =>
    (Option.bind (rollcallref09_Table_Set.f k y6 p75 p76 p74.2) fun p77 =>
    J1 D H k (L0 D H k n) y0 y1 y5 y6 y7 (some (HA.cell0 S.next)) p77.2))))))))))))))) else
    (Option.bind (timer_Table_string_Next.f y5 S) fun p78 =>
    (Option.bind (rollcallref09_Table_Due.f k y6 9223372036854775807 p78.2) fun p79 =>
    (if (p78.1.2.2 == (decide ((Sl.len p79.1 : Int) > 0))) = true then
    (if (!p78.1.2.2) = true then
    J4 D H k p78.1.1 p78.1.2.1 p78.1.2.2 p79.1 (p78.1.2.2 == (decide ((Sl.len p79.1 : Int) > 0))) (decide (p78.1.1 = ([] : List UInt8))) p79.2 else
    J4 D H k p78.1.1 p78.1.2.1 p78.1.2.2 p79.1 (p78.1.2.2 == (decide ((Sl.len p79.1 : Int) > 0))) false p79.2) else
    J7 D H k false p79.2))))
theorem L0_snd {D : Dp} {H : Hd} {k : Nat} (hD : DSound Try.prog base W0 D) (hH : HSound Try.prog base W0 β0 H)  : ∀ {n : Nat} ⦃y0 : Sl⦄ ⦃y1 : Int⦄ ⦃y5 : (Option HA)⦄ ⦃y6 : (Option HA)⦄ ⦃y7 : Int⦄ ⦃S : HS⦄ ⦃p : (Bool) × HS⦄ ⦃g2 g3 g4 g8 g9 g10 g11 g12 g13 g14 g15 g16 g17 g18 g19 g20 g21 g22 g23 g24 g25 g26 g27 g28 g29 g30 g31 g32 g33 g34 g35 g36 g37 g38 g39 g40 g41 g42 g43 g44 g45 g46 g47 g48 g49 g50 g51 g52 g53 g54 g55 g56 g57 g58 g59 g60 g61 g62 g63 g64 g65 g66 g67 g68 g69 g70 g71 g72 g73 g74 g75 g76 g77 g78 g79 g80 g81 g82 g83 g84 g85 g86 g87 g88 g89 g90 g91 g92 g93 g94 g95 g96 g97 g98 g99 g100 g101 g102 g103 g104 g105 g106 g107 g108 g109 g110 g111 g112 g113 g114 g115 g116 g117 g118 g119 g120 g121 g122 g123 g124 g125 g126 g127 g128 g129 g130 g131 g132 g133 g134 g135 g136 g137 g138 g139 g140 g141 g142 g143 g144 g145 g146 g147 g148 g149 g150 g151 g152 g153 g154 g155 g156 g157 g158 g159 g160 g161 g162 g163 g164 g165 g166 g167 g168 g169 g170 g171 g172 g173 g174 g175 g176 g177 g178 g179 g180 g181 g182 g183 g184 g185 g186 g187 g188 g189 g190 g191 g192 g193 g194 g195 g196 g197 g198 g199 : HV⦄, L0 D H k n y0 y1 y5 y6 y7 S = some p → HRun Try.prog base W0 β0 3 none [.inLoop c27, .inBlock 0, .code c101] ⟨[(Sl.hv y0), (.int .i64 y1), g2, g3, g4, (.ptr y5), (.ptr y6), (.int .i64 y7), g8, g9, g10, g11, g12, g13, g14, g15, g16, g17, g18, g19, g20, g21, g22, g23, g24, g25, g26, g27, g28, g29, g30, g31, g32, g33, g34, g35, g36, g37, g38, g39, g40, g41, g42, g43, g44, g45, g46, g47, g48, g49, g50, g51, g52, g53, g54, g55, g56, g57, g58, g59, g60, g61, g62, g63, g64, g65, g66, g67, g68, g69, g70, g71, g72, g73, g74, g75, g76, g77, g78, g79, g80, g81, g82, g83, g84, g85, g86, g87, g88, g89, g90, g91, g92, g93, g94, g95, g96, g97, g98, g99, g100, g101, g102, g103, g104, g105, g106, g107, g108, g109, g110, g111, g112, g113, g114, g115, g116, g117, g118, g119, g120, g121, g122, g123, g124, g125, g126, g127, g128, g129, g130, g131, g132, g133, g134, g135, g136, g137, g138, g139, g140, g141, g142, g143, g144, g145, g146, g147, g148, g149, g150, g151, g152, g153, g154, g155, g156, g157, g158, g159, g160, g161, g162, g163, g164, g165, g166, g167, g168, g169, g170, g171, g172, g173, g174, g175, g176, g177, g178, g179, g180, g181, g182, g183, g184, g185, g186, g187, g188, g189, g190, g191, g192, g193, g194, g195, g196, g197, g198, g199], []⟩ S (fun v S1 => v = (.bool p.1) ∧ S1 = p.2) := by
  intro n
  induction n with
  | zero => intro _ _ _ _ _ _ _ _ _ _ _ _ _ _ _ _ _ _ _ _ _ _ _ _ _ _ _ _ _ _ _ _ _ _ _ _ _ _ _ _ _ _ _ _ _ _ _ _ _ _ _ _ _ _ _ _ _ _ _ _ _ _ _ _ _ _ _ _ _ _ _ _ _ _ _ _ _ _ _ _ _ _ _ _ _ _ _ _ _ _ _ _ _ _ _ _ _ _ _ _ _ _ _ _ _ _ _ _ _ _ _ _ _ _ _ _ _ _ _ _ _ _ _ _ _ _ _ _ _ _ _ _ _ _ _ _ _ _ _ _ _ _ _ _ _ _ _ _ _ _ _ _ _ _ _ _ _ _ _ _ _ _ _ _ _ _ _ _ _ _ _ _ _ _ _ _ _ _ _ _ _ _ _ _ _ _ _ _ _ _ _ _ _ _ _ _ _ _ _ _ _ _ h; cases h
  | succ n ih =>
    intro y0 y1 y5 y6 y7 S p g2 g3 g4 g8 g9 g10 g11 g12 g13 g14 g15 g16 g17 g18 g19 g20 g21 g22 g23 g24 g25 g26 g27 g28 g29 g30 g31 g32 g33 g34 g35 g36 g37 g38 g39 g40 g41 g42 g43 g44 g45 g46 g47 g48 g49 g50 g51 g52 g53 g54 g55 g56 g57 g58 g59 g60 g61 g62 g63 g64 g65 g66 g67 g68 g69 g70 g71 g72 g73 g74 g75 g76 g77 g78 g79 g80 g81 g82 g83 g84 g85 g86 g87 g88 g89 g90 g91 g92 g93 g94 g95 g96 g97 g98 g99 g100 g101 g102 g103 g104 g105 g106 g107 g108 g109 g110 g111 g112 g113 g114 g115 g116 g117 g118 g119 g120 g121 g122 g123 g124 g125 g126 g127 g128 g129 g130 g131 g132 g133 g134 g135 g136 g137 g138 g139 g140 g141 g142 g143 g144 g145 g146 g147 g148 g149 g150 g151 g152 g153 g154 g155 g156 g157 g158 g159 g160 g161 g162 g163 g164 g165 g166 g167 g168 g169 g170 g171 g172 g173 g174 g175 g176 g177 g178 g179 g180 g181 g182 g183 g184 g185 g186 g187 g188 g189 g190 g191 g192 g193 g194 g195 g196 g197 g198 g199 h
    simp only [L0] at h
    refine hr_inLoop ?_
    refine q_seq e27 ?_
    refine q_seq e28 ?_
    refine q_region e29 rfl ?_
    refine q_op (dst := some 26) rfl (fun _ ho => ok_move ho (.tmp rfl)) ?_
    refine q_op (dst := some 27) rfl (fun _ ho => ok_move ho (.tmp rfl)) ?_
    refine q_op (dst := some 28) rfl (fun _ ho => ok_len_sl (q := Sl.a y0) (n := Sl.len y0) (z := Sl.cap y0) ho rfl tu22 (.tmp rfl)) ?_
    refine q_op (dst := some 29) rfl (fun _ ho => ok_ibin ho (.tmp rfl) (.tmp rfl) rfl) ?_
    refine hr_region_end ?_
    try dsimp only [HAct.put, List.set_cons_zero, List.set_cons_succ]
    rcases ifc h with ⟨hc7, h⟩ | ⟨hc7, h⟩
    · refine q_cond_t e30 (.tmp rfl) (decide_eq_true hc7) ?_
      refine q_skipc e31 ?_
      refine q_seq e33 ?_
      refine q_block e34 ?_
      refine q_seq e35 ?_
      refine q_region e36 rfl ?_
      refine q_op (dst := some 32) rfl (fun _ ho => ok_move ho (.tmp rfl)) ?_
      refine q_op (dst := some 33) rfl (fun _ ho => ok_move ho (.tmp rfl)) ?_
      obtain ⟨p8, hp8, h⟩ := bindo h
      refine q_op (dst := some 34) rfl (fun _ ho => ok_indexAddr (s := y0) ho tu22 sz32 (.tmp rfl) (.tmp rfl) hp8) ?_
      obtain ⟨p9, hp9, h⟩ := bindo h
      obtain ⟨p10, hp10, h⟩ := bindo h
      obtain ⟨p11, hp11, h⟩ := bindo h
      refine q_op (dst := some 35) rfl (fun _ ho => ok_load_a (vs := [(.int .i64 p9), (.str p10), (.int .i64 p11)]) ho ia32 (.tmp rfl) rfl ⟨ldI_out hp9, ldS_out hp10, ldI_out hp11, trivial⟩ (by simp)) ?_
      try dsimp only [HAct.put, List.set_cons_zero, List.set_cons_succ]
      obtain ⟨p12, hp12, h⟩ := leto h
      refine q_op (dst := some 8) rfl (fun _ ho => ok_alloc_e ho zi32 zr32 (by decide) rfl hp12) ?_
      obtain ⟨p13, hp13, h⟩ := bindo h
      refine q_op (dst := none) rfl (fun _ ho => ok_store_s (v := (.agg [(.int .i64 p9), (.str p10), (.int .i64 p11)])) ho sz32 (.tmp rfl) rfl (.tmp rfl) rfl hp13) ?_
      refine hr_region_end ?_
      try dsimp only [HAct.put, List.set_cons_zero, List.set_cons_succ]
      refine q_seq e37 ?_
      refine q_seq e38 ?_
      refine q_region e39 rfl ?_
      refine q_op (dst := some 36) rfl (fun _ ho => ok_fieldAddr_s ho fi32_0 (by decide) (.tmp rfl) rfl) ?_
      obtain ⟨p14, hp14, h⟩ := bindo h
      refine q_op (dst := some 37) rfl (fun _ ho => ok_load_s ho sc3 (.tmp rfl) rfl (ldI_out hp14)) ?_
      refine hr_region_end ?_
      try dsimp only [HAct.put, List.set_cons_zero, List.set_cons_succ]
      refine q_block e40 ?_
      refine q_seq e41 ?_
      refine q_region e42 rfl ?_
      refine q_op (dst := some 51) rfl (fun _ ho => ok_ibin ho (.tmp rfl) (.int _ _) rfl) ?_
      refine q_op (dst := some 50) rfl (fun _ ho => ok_assign ho (.tmp rfl)) ?_
      refine hr_region_end ?_
      try dsimp only [HAct.put, List.set_cons_zero, List.set_cons_succ]
      rcases ifc h with ⟨hc15, h⟩ | ⟨hc15, h⟩
      · refine q_cond_t e43 (.tmp rfl) (decide_eq_true hc15) ?_
        refine q_seq e44 ?_
        refine x_start (cls := [0, 0, 1, 2, 0, 0, 3, 2, 0]) (rk := [0, 1, 2, 3, 4, 5, 6, 7, 8]) e45 (by kernel_rfl) ?_
        refine x_goP (f_op (dst := some 52) (ts := [5]) rfl (by intro _ _ h; cases h) (by kernel_rfl) (fun _ _ ho => ok_move ho (.tmp rfl))) rfl (by decide) (by decide) ?_
        refine x_goP (f_op (dst := some 53) (ts := [8]) rfl (by intro _ _ h; cases h) (by kernel_rfl) (fun _ _ ho => ok_fieldAddr_s ho fi32_1 (by decide) (.tmp rfl) rfl)) rfl (by decide) (by decide) ?_
        obtain ⟨p16, hp16, h⟩ := bindo h
        refine x_goP (r_op (dst := some 54) (ts := [53]) rfl (by intro _ _ h; cases h) (by kernel_rfl) (fun _ ho => ok_load_s ho sc9 (.tmp rfl) rfl (ldS_out hp16))) rfl (by decide) (by decide) ?_
        obtain ⟨p17, hp17, h⟩ := bindo h
        refine x_goE (e_call (dst := some 55) (ts := [52, 54]) rfl (by kernel_rfl) (.func _) (.cons (.tmp rfl) (.cons (.tmp rfl) Evs.nil)) (HInv.static timer_Table_string_Stop.at_ timer_Table_string_Stop.body (timer_Table_string_Stop.snd hD hH hp17))) rfl trivial ?_
        try dsimp only [HAct.put, List.set_cons_zero, List.set_cons_succ]
        refine x_goP (f_op (dst := some 56) (ts := [6]) rfl (by intro _ _ h; cases h) (by kernel_rfl) (fun _ _ ho => ok_move ho (.tmp rfl))) rfl (by decide) (by decide) ?_
        refine x_goP (f_op (dst := some 57) (ts := [8]) rfl (by intro _ _ h; cases h) (by kernel_rfl) (fun _ _ ho => ok_fieldAddr_s ho fi32_1 (by decide) (.tmp rfl) rfl)) rfl (by decide) (by decide) ?_
        obtain ⟨p18, hp18, h⟩ := bindo h
        obtain ⟨p19, hp19, h⟩ := bindo h
        obtain ⟨hg20, h⟩ := gd h
        refine x_late (r_op (dst := some 58) (ts := [57]) rfl (by intro _ _ h; cases h) (by kernel_rfl) (fun _ ho => ok_load_s ho sc9 (.tmp rfl) rfl (ldS_out hp18))) rfl ⟨.inr (l_op (dst := some 58) (ts := [57]) rfl (by intro _ _ h; cases h) (by kernel_rfl) (fun _ ho => ok_load_s ho sc9 (.tmp rfl) rfl (ldS_out (hp19.trans (congrArg some hg20))))), trivial⟩ ?_
        obtain ⟨p21, hp21, h⟩ := bindo h
        refine x_goE (e_call (dst := some 59) (ts := [56, 58]) rfl (by kernel_rfl) (.func _) (.cons (.tmp rfl) (.cons (.tmp rfl) Evs.nil)) (HInv.static rollcallref09_Table_Stop.at_ rollcallref09_Table_Stop.body (rollcallref09_Table_Stop.snd  hp21))) rfl ⟨.inl (by kernel_rfl), trivial⟩ ?_
        try dsimp only [HAct.put, List.set_cons_zero, List.set_cons_succ]
        refine x_goP (f_op (dst := some 60) (ts := [55, 59]) rfl (by intro _ _ h; cases h) (by kernel_rfl) (fun _ _ ho => ok_beq ho tu4 (.inr ⟨rfl, rfl⟩) (.tmp rfl) (.tmp rfl))) rfl (by decide) (by decide) ?_
        refine x_rest rfl ?_
        refine hr_region_end ?_
        try dsimp only [HAct.put, List.set_cons_zero, List.set_cons_succ]
        rcases ifc h with ⟨hc22, h⟩ | ⟨hc22, h⟩
        · refine q_cond_t e46 (.tmp rfl) hc22 ?_
          refine q_seq e47 ?_
          refine q_region e48 rfl ?_
          refine q_op (dst := some 4) rfl (fun _ ho => ok_assign ho (.bool _)) ?_
          refine hr_region_end ?_
          try dsimp only [HAct.put, List.set_cons_zero, List.set_cons_succ]
          cases h
          exact q_ret e49 at_.at_ rfl (res1 rfl rfl) ⟨rfl, rfl⟩
        · refine q_cond_f e46 (.tmp rfl) (bfalse hc22) ?_
          refine q_skipc e50 ?_
          refine hr_inBlock ?_
          try dsimp only [HAct.put, List.set_cons_zero, List.set_cons_succ]
          exact J1_snd hD hH ih h
      · refine q_cond_f e43 (.tmp rfl) (decide_eq_false hc15) ?_
        refine q_seq e51 ?_
        refine q_region e52 rfl ?_
        refine q_op (dst := some 62) rfl (fun _ ho => ok_ibin ho (.tmp rfl) (.int _ _) rfl) ?_
        refine q_op (dst := some 61) rfl (fun _ ho => ok_assign ho (.tmp rfl)) ?_
        refine hr_region_end ?_
        try dsimp only [HAct.put, List.set_cons_zero, List.set_cons_succ]
        rcases ifc h with ⟨hc55, h⟩ | ⟨hc55, h⟩
        · refine q_cond_t e53 (.tmp rfl) (decide_eq_true hc55) ?_
          refine q_seq e54 ?_
          refine x_start (cls := [0, 0, 1, 2, 0, 0, 3, 2, 0, 0]) (rk := [0, 1, 2, 3, 4, 5, 6, 7, 8, 9]) e55 (by kernel_rfl) ?_
          refine x_goP (f_op (dst := some 63) (ts := [5]) rfl (by intro _ _ h; cases h) (by kernel_rfl) (fun _ _ ho => ok_move ho (.tmp rfl))) rfl (by decide) (by decide) ?_
          refine x_goP (f_op (dst := some 64) (ts := [8]) rfl (by intro _ _ h; cases h) (by kernel_rfl) (fun _ _ ho => ok_fieldAddr_s ho fi32_2 (by decide) (.tmp rfl) rfl)) rfl (by decide) (by decide) ?_
          obtain ⟨p56, hp56, h⟩ := bindo h
          refine x_goP (r_op (dst := some 65) (ts := [64]) rfl (by intro _ _ h; cases h) (by kernel_rfl) (fun _ ho => ok_load_s ho sc3 (.tmp rfl) rfl (ldI_out hp56))) rfl (by decide) (by decide) ?_
          obtain ⟨p57, hp57, h⟩ := bindo h
          refine x_goE (e_call (dst := some 66) (ts := [63, 65]) rfl (by kernel_rfl) (.func _) (.cons (.tmp rfl) (.cons (.tmp rfl) Evs.nil)) (HInv.static timer_Table_string_Take.at_ timer_Table_string_Take.body (timer_Table_string_Take.snd hD hH hp57))) rfl trivial ?_
          try dsimp only [HAct.put, List.set_cons_zero, List.set_cons_succ]
          refine x_goP (f_op (dst := some 67) (ts := [6]) rfl (by intro _ _ h; cases h) (by kernel_rfl) (fun _ _ ho => ok_move ho (.tmp rfl))) rfl (by decide) (by decide) ?_
          refine x_goP (f_op (dst := some 68) (ts := [8]) rfl (by intro _ _ h; cases h) (by kernel_rfl) (fun _ _ ho => ok_fieldAddr_s ho fi32_2 (by decide) (.tmp rfl) rfl)) rfl (by decide) (by decide) ?_
          obtain ⟨p58, hp58, h⟩ := bindo h
          obtain ⟨p59, hp59, h⟩ := bindo h
          obtain ⟨hg60, h⟩ := gd h
          refine x_late (r_op (dst := some 69) (ts := [68]) rfl (by intro _ _ h; cases h) (by kernel_rfl) (fun _ ho => ok_load_s ho sc3 (.tmp rfl) rfl (ldI_out hp58))) rfl ⟨.inr (l_op (dst := some 69) (ts := [68]) rfl (by intro _ _ h; cases h) (by kernel_rfl) (fun _ ho => ok_load_s ho sc3 (.tmp rfl) rfl (ldI_out (hp59.trans (congrArg some hg60))))), trivial⟩ ?_
          obtain ⟨p61, hp61, h⟩ := bindo h
          refine x_goE (e_call (dst := some 70) (ts := [67, 69]) rfl (by kernel_rfl) (.func _) (.cons (.tmp rfl) (.cons (.tmp rfl) Evs.nil)) (HInv.static rollcallref09_Table_Due.at_ rollcallref09_Table_Due.body (rollcallref09_Table_Due.snd  hp61))) rfl ⟨.inl (by kernel_rfl), trivial⟩ ?_
          try dsimp only [HAct.put, List.set_cons_zero, List.set_cons_succ]
          refine x_goP (f_op (dst := some 9) (ts := [66]) rfl (by intro _ _ h; cases h) (by kernel_rfl) (fun _ _ ho => ok_assign ho (.tmp rfl))) rfl (by decide) (by decide) ?_
          refine x_goP (f_op (dst := some 10) (ts := [70]) rfl (by intro _ _ h; cases h) (by kernel_rfl) (fun _ _ ho => ok_assign ho (.tmp rfl))) rfl (by decide) (by decide) ?_
          refine x_rest rfl ?_
          refine hr_region_end ?_
          try dsimp only [HAct.put, List.set_cons_zero, List.set_cons_succ]
          refine q_seq e56 ?_
          refine q_seq e57 ?_
          refine q_region e58 rfl ?_
          refine q_op (dst := some 71) rfl (fun _ ho => ok_move ho (.tmp rfl)) ?_
          refine q_op (dst := some 72) rfl (fun _ ho => ok_len_sl (q := Sl.a p57.1) (n := Sl.len p57.1) (z := Sl.cap p57.1) ho rfl tu34 (.tmp rfl)) ?_
          refine q_op (dst := some 73) rfl (fun _ ho => ok_move ho (.tmp rfl)) ?_
          refine q_op (dst := some 74) rfl (fun _ ho => ok_len_sl (q := Sl.a p61.1) (n := Sl.len p61.1) (z := Sl.cap p61.1) ho rfl tu28 (.tmp rfl)) ?_
          try dsimp only [HAct.put, List.set_cons_zero, List.set_cons_succ]
          refine q_op (dst := some 75) rfl (fun _ ho => ok_ibin ho (.tmp rfl) (.tmp rfl) rfl) ?_
          refine hr_region_end ?_
          try dsimp only [HAct.put, List.set_cons_zero, List.set_cons_succ]
          rcases ifc h with ⟨hc62, h⟩ | ⟨hc62, h⟩
          · refine q_cond_t e59 (.tmp rfl) hc62 ?_
            refine q_seq e60 ?_
            refine q_region e61 rfl ?_
            refine q_op (dst := some 4) rfl (fun _ ho => ok_assign ho (.bool _)) ?_
            refine hr_region_end ?_
            try dsimp only [HAct.put, List.set_cons_zero, List.set_cons_succ]
            cases h
            exact q_ret e62 at_.at_ rfl (res1 rfl rfl) ⟨rfl, rfl⟩
          · refine q_cond_f e59 (.tmp rfl) (bfalse hc62) ?_
            refine q_skipc e63 ?_
            refine q_seq e64 ?_
            refine q_region e65 rfl ?_
            refine q_op (dst := some 11) rfl (fun _ ho => ok_assign ho (.int _ _)) ?_
            refine hr_region_end ?_
            try dsimp only [HAct.put, List.set_cons_zero, List.set_cons_succ]
            refine q_block e66 ?_
            refine q_loop e67 ?_
            try dsimp only [HAct.put, List.set_cons_zero, List.set_cons_succ]
            exact L3_snd hD hH ih h
        · refine q_cond_f e53 (.tmp rfl) (decide_eq_false hc55) ?_
          refine q_seq e86 ?_
          refine q_region e87 rfl ?_
          refine q_op (dst := some 38) rfl (fun _ ho => ok_move ho (.tmp rfl)) ?_
          refine q_op (dst := some 39) rfl (fun _ ho => ok_fieldAddr_s ho fi32_1 (by decide) (.tmp rfl) rfl) ?_
          obtain ⟨p72, hp72, h⟩ := bindo h
          refine q_op (dst := some 40) rfl (fun _ ho => ok_load_s ho sc9 (.tmp rfl) rfl (ldS_out hp72)) ?_
          refine q_op (dst := some 41) rfl (fun _ ho => ok_fieldAddr_s ho fi32_2 (by decide) (.tmp rfl) rfl) ?_
          try dsimp only [HAct.put, List.set_cons_zero, List.set_cons_succ]
          obtain ⟨p73, hp73, h⟩ := bindo h
          refine q_op (dst := some 42) rfl (fun _ ho => ok_load_s ho sc3 (.tmp rfl) rfl (ldI_out hp73)) ?_
          obtain ⟨p74, hp74, h⟩ := bindo h
          refine q_call (dst := some 43) rfl (.func _) (.cons (.tmp rfl) (.cons (.tmp rfl) (.cons (.tmp rfl) Evs.nil))) (HInv.static timer_Table_string_Set.at_ timer_Table_string_Set.body (timer_Table_string_Set.snd hD hH hp74)) ?_
          rintro _ _ ⟨rfl, rfl⟩
          refine hr_region_end ?_
          try dsimp only [HAct.put, List.set_cons_zero, List.set_cons_succ]
          refine q_region e88 rfl ?_
          refine q_op (dst := some 44) rfl (fun _ ho => ok_move ho (.tmp rfl)) ?_
          refine q_op (dst := some 45) rfl (fun _ ho => ok_fieldAddr_s ho fi32_1 (by decide) (.tmp rfl) rfl) ?_
          obtain ⟨p75, hp75, h⟩ := bindo h
          refine q_op (dst := some 46) rfl (fun _ ho => ok_load_s ho sc9 (.tmp rfl) rfl (ldS_out hp75)) ?_
          refine q_op (dst := some 47) rfl (fun _ ho => ok_fieldAddr_s ho fi32_2 (by decide) (.tmp rfl) rfl) ?_
          try dsimp only [HAct.put, List.set_cons_zero, List.set_cons_succ]
          obtain ⟨p76, hp76, h⟩ := bindo h
          refine q_op (dst := some 48) rfl (fun _ ho => ok_load_s ho sc3 (.tmp rfl) rfl (ldI_out hp76)) ?_
          obtain ⟨p77, hp77, h⟩ := bindo h
          refine q_call (dst := some 49) rfl (.func _) (.cons (.tmp rfl) (.cons (.tmp rfl) (.cons (.tmp rfl) Evs.nil))) (HInv.static rollcallref09_Table_Set.at_ rollcallref09_Table_Set.body (rollcallref09_Table_Set.snd  hp77)) ?_
          rintro _ _ ⟨rfl, rfl⟩
          refine hr_region_end ?_
          try dsimp only [HAct.put, List.set_cons_zero, List.set_cons_succ]
          refine hr_inBlock ?_
          try dsimp only [HAct.put, List.set_cons_zero, List.set_cons_succ]
          exact J1_snd hD hH ih h
    · refine q_cond_f e30 (.tmp rfl) (decide_eq_false hc7) ?_
      refine q_exit e32 rfl ?_
      refine q_seq e101 ?_
      refine q_region e102 rfl ?_
      refine q_op (dst := some 157) rfl (fun _ ho => ok_move ho (.tmp rfl)) ?_
      obtain ⟨p78, hp78, h⟩ := bindo h
      refine q_call (dst := some 158) rfl (.func _) (.cons (.tmp rfl) Evs.nil) (HInv.static timer_Table_string_Next.at_ timer_Table_string_Next.body (timer_Table_string_Next.snd  hp78)) ?_
      rintro _ _ ⟨rfl, rfl⟩
      refine q_op (dst := some 156) rfl (fun _ ho => ok_move ho (.tmp rfl)) ?_
      refine q_op (dst := some 159) rfl (fun _ ho => ok_extract ho (.tmp rfl) rfl) ?_
      try dsimp only [HAct.put, List.set_cons_zero, List.set_cons_succ]
      refine q_op (dst := some 160) rfl (fun _ ho => ok_extract ho (.tmp rfl) rfl) ?_
      refine q_op (dst := some 161) rfl (fun _ ho => ok_extract ho (.tmp rfl) rfl) ?_
      refine q_op (dst := some 15) rfl (fun _ ho => ok_assign ho (.tmp rfl)) ?_
      refine q_op (dst := some 16) rfl (fun _ ho => ok_assign ho (.tmp rfl)) ?_
      try dsimp only [HAct.put, List.set_cons_zero, List.set_cons_succ]
      refine q_op (dst := some 17) rfl (fun _ ho => ok_assign ho (.tmp rfl)) ?_
      refine hr_region_end ?_
      try dsimp only [HAct.put, List.set_cons_zero, List.set_cons_succ]
      refine q_seq e103 ?_
      refine q_region e104 rfl ?_
      refine q_op (dst := some 162) rfl (fun _ ho => ok_move ho (.tmp rfl)) ?_
      obtain ⟨p79, hp79, h⟩ := bindo h
      refine q_call (dst := some 163) rfl (.func _) (.cons (.tmp rfl) (.cons (.int _ _) Evs.nil)) (HInv.static rollcallref09_Table_Due.at_ rollcallref09_Table_Due.body (rollcallref09_Table_Due.snd  hp79)) ?_
      rintro _ _ ⟨rfl, rfl⟩
      refine q_op (dst := some 18) rfl (fun _ ho => ok_assign ho (.tmp rfl)) ?_
      refine hr_region_end ?_
      try dsimp only [HAct.put, List.set_cons_zero, List.set_cons_succ]
      refine q_seq e105 ?_
      refine q_region e106 rfl ?_
      refine q_op (dst := some 164) rfl (fun _ ho => ok_move ho (.tmp rfl)) ?_
      refine q_op (dst := some 165) rfl (fun _ ho => ok_move ho (.tmp rfl)) ?_
      refine q_op (dst := some 166) rfl (fun _ ho => ok_len_sl (q := Sl.a p79.1) (n := Sl.len p79.1) (z := Sl.cap p79.1) ho rfl tu28 (.tmp rfl)) ?_
      refine q_op (dst := some 167) rfl (fun _ ho => ok_ibin ho (.tmp rfl) (.int _ _) rfl) ?_
      try dsimp only [HAct.put, List.set_cons_zero, List.set_cons_succ]
      refine q_op (dst := some 168) rfl (fun _ ho => ok_beq ho tu4 (.inl ⟨rfl, rfl⟩) (.tmp rfl) (.tmp rfl)) ?_
      refine q_op (dst := some 169) rfl (fun _ ho => ok_move ho (.tmp rfl)) ?_
      rcases ifc h with ⟨hc80, h⟩ | ⟨hc80, h⟩
      · refine q_op_g (t := 169) (dst := some 170) rfl rfl rfl hc80 (fun _ ho => ok_move ho (.tmp rfl)) ?_
        refine q_op_g (t := 169) (dst := some 171) rfl rfl rfl hc80 (fun _ ho => ok_not ho (.tmp rfl)) ?_
        try dsimp only [HAct.put, List.set_cons_zero, List.set_cons_succ]
        refine q_op_g (t := 169) (dst := some 172) rfl rfl rfl hc80 (fun _ ho => ok_move ho (.tmp rfl)) ?_
        rcases ifc h with ⟨hc81, h⟩ | ⟨hc81, h⟩
        · refine q_op_g (t := 172) (dst := some 173) rfl rfl rfl hc81 (fun _ ho => ok_move ho (.tmp rfl)) ?_
          refine q_op_g (t := 172) (dst := some 174) rfl rfl rfl hc81 (fun _ ho => ok_sbin ho (.tmp rfl) (.str _) rfl) ?_
          refine q_op_g (t := 169) (dst := some 175) rfl rfl rfl hc80 (fun _ ho => ok_pick_tt ho (.tmp rfl) hc81 (.tmp rfl)) ?_
          try dsimp only [HAct.put, List.set_cons_zero, List.set_cons_succ]
          try dsimp only [HAct.put, List.set_cons_zero, List.set_cons_succ]
          exact J4_snd hD hH h
        · refine q_skip (dst := some 173) (t := 172) rfl rfl rfl (bfalse hc81) ?_
          refine q_skip (dst := some 174) (t := 172) rfl rfl rfl (bfalse hc81) ?_
          refine q_op_g (t := 169) (dst := some 175) rfl rfl rfl hc80 (fun _ ho => ok_pick_ff ho (.tmp rfl) (bfalse hc81) (.bool _)) ?_
          try dsimp only [HAct.put, List.set_cons_zero, List.set_cons_succ]
          try dsimp only [HAct.put, List.set_cons_zero, List.set_cons_succ]
          exact J4_snd hD hH h
      · refine q_skip (dst := some 170) (t := 169) rfl rfl rfl (bfalse hc80) ?_
        refine q_skip (dst := some 171) (t := 169) rfl rfl rfl (bfalse hc80) ?_
        try dsimp only [HAct.put, List.set_cons_zero, List.set_cons_succ]
        refine q_skip (dst := some 172) (t := 169) rfl rfl rfl (bfalse hc80) ?_
        refine q_skip_u (dst := some 173) (t := 172) rfl rfl rfl ?_
        refine q_skip_u (dst := some 174) (t := 172) rfl rfl rfl ?_
        refine q_skip (dst := some 175) (t := 169) rfl rfl rfl (bfalse hc80) ?_
        try dsimp only [HAct.put, List.set_cons_zero, List.set_cons_succ]
        refine q_skip (dst := some 176) (t := 169) rfl rfl rfl (bfalse hc80) ?_
        refine q_skip_u (dst := some 177) (t := 176) rfl rfl rfl ?_
        refine q_skip_u (dst := some 178) (t := 176) rfl rfl rfl ?_
        refine q_skip (dst := some 179) (t := 169) rfl rfl rfl (bfalse hc80) ?_
        try dsimp only [HAct.put, List.set_cons_zero, List.set_cons_succ]
        refine q_skip (dst := some 180) (t := 169) rfl rfl rfl (bfalse hc80) ?_
        refine q_skip_u (dst := some 181) (t := 180) rfl rfl rfl ?_
        refine q_skip_u (dst := some 182) (t := 180) rfl rfl rfl ?_
        refine q_skip_u (dst := some 183) (t := 182) rfl rfl rfl ?_
        try dsimp only [HAct.put, List.set_cons_zero, List.set_cons_succ]
        refine q_skip_u (dst := some 184) (t := 182) rfl rfl rfl ?_
        refine q_skip_u (dst := some 185) (t := 182) rfl rfl rfl ?_
        refine q_skip_u (dst := some 186) (t := 182) rfl rfl rfl ?_
        refine q_skip_u (dst := some 187) (t := 182) rfl rfl rfl ?_
        try dsimp only [HAct.put, List.set_cons_zero, List.set_cons_succ]
        refine q_skip_u (dst := some 188) (t := 182) rfl rfl rfl ?_
        refine q_skip_u (dst := some 189) (t := 180) rfl rfl rfl ?_
        refine q_skip_u (dst := some 190) (t := 180) rfl rfl rfl ?_
        refine q_skip_u (dst := some 191) (t := 190) rfl rfl rfl ?_
        try dsimp only [HAct.put, List.set_cons_zero, List.set_cons_succ]
        refine q_skip_u (dst := some 192) (t := 190) rfl rfl rfl ?_
        refine q_skip_u (dst := some 193) (t := 190) rfl rfl rfl ?_
        refine q_skip_u (dst := some 194) (t := 190) rfl rfl rfl ?_
        refine q_skip_u (dst := some 195) (t := 190) rfl rfl rfl ?_
        try dsimp only [HAct.put, List.set_cons_zero, List.set_cons_succ]
        refine q_skip_u (dst := some 196) (t := 190) rfl rfl rfl ?_
        refine q_skip_u (dst := some 197) (t := 180) rfl rfl rfl ?_
        refine q_skip (dst := some 198) (t := 169) rfl rfl rfl (bfalse hc80) ?_
        refine q_op (dst := some 199) rfl (fun _ ho => ok_pick_ff ho (.tmp rfl) (bfalse hc80) (.bool _)) ?_
        try dsimp only [HAct.put, List.set_cons_zero, List.set_cons_succ]
        try dsimp only [HAct.put, List.set_cons_zero, List.set_cons_succ]
        exact J7_snd hD hH h
def f (D : Dp) (H : Hd) (k : Nat) (x0 : Sl) (x1 : Int) (S : HS) : Option ((Bool) × HS) :=
  (Option.bind (rollcalllaw09_awake.f D H k S) fun p1 =>
  (if (!p1.1) = true then
  some (false, p1.2) else
  (Option.bind (rollcalllaw09_great.f k x0 p1.2) fun p3 =>
  (if p3.1 = true then
  some (true, p3.2) else
  (Option.bind (timer_New_string.f p3.2) fun p5 =>
  (letv (HS.new p5.2 (.cells 1 [[(Sl.hv Sl.nil)]] true)) fun p6 =>
  L0 D H k k x0 x1 p5.1 (some (HA.cell0 p5.2.next)) 0 p6))))))
theorem snd {D : Dp} {H : Hd} {k : Nat} {x0 : Sl} {x1 : Int} {S : HS} (hD : DSound Try.prog base W0 D) (hH : HSound Try.prog base W0 β0 H)  {p : (Bool) × HS} (h : f D H k x0 x1 S = some p) : HCall Try.prog base W0 β0 3 [(Sl.hv x0), (.int .i64 x1)] S (fun v S1 => v = (.bool p.1) ∧ S1 = p.2) := by
  unfold f at h
  refine HCall.of_run at_.at_ body ?_
  show HRun Try.prog base W0 β0 3 none [.code c0] ⟨[(Sl.hv x0), (.int .i64 x1), .tup [], .tup [], .tup [], .tup [], .tup [], .tup [], .tup [], .tup [], .tup [], .tup [], .tup [], .tup [], .tup [], .tup [], .tup [], .tup [], .tup [], .tup [], .tup [], .tup [], .tup [], .tup [], .tup [], .tup [], .tup [], .tup [], .tup [], .tup [], .tup [], .tup [], .tup [], .tup [], .tup [], .tup [], .tup [], .tup [], .tup [], .tup [], .tup [], .tup [], .tup [], .tup [], .tup [], .tup [], .tup [], .tup [], .tup [], .tup [], .tup [], .tup [], .tup [], .tup [], .tup [], .tup [], .tup [], .tup [], .tup [], .tup [], .tup [], .tup [], .tup [], .tup [], .tup [], .tup [], .tup [], .tup [], .tup [], .tup [], .tup [], .tup [], .tup [], .tup [], .tup [], .tup [], .tup [], .tup [], .tup [], .tup [], .tup [], .tup [], .tup [], .tup [], .tup [], .tup [], .tup [], .tup [], .tup [], .tup [], .tup [], .tup [], .tup [], .tup [], .tup [], .tup [], .tup [], .tup [], .tup [], .tup [], .tup [], .tup [], .tup [], .tup [], .tup [], .tup [], .tup [], .tup [], .tup [], .tup [], .tup [], .tup [], .tup [], .tup [], .tup [], .tup [], .tup [], .tup [], .tup [], .tup [], .tup [], .tup [], .tup [], .tup [], .tup [], .tup [], .tup [], .tup [], .tup [], .tup [], .tup [], .tup [], .tup [], .tup [], .tup [], .tup [], .tup [], .tup [], .tup [], .tup [], .tup [], .tup [], .tup [], .tup [], .tup [], .tup [], .tup [], .tup [], .tup [], .tup [], .tup [], .tup [], .tup [], .tup [], .tup [], .tup [], .tup [], .tup [], .tup [], .tup [], .tup [], .tup [], .tup [], .tup [], .tup [], .tup [], .tup [], .tup [], .tup [], .tup [], .tup [], .tup [], .tup [], .tup [], .tup [], .tup [], .tup [], .tup [], .tup [], .tup [], .tup [], .tup [], .tup [], .tup [], .tup [], .tup [], .tup [], .tup [], .tup [], .tup [], .tup [], .tup [], .tup [], .tup [], .tup [], .tup [], .tup [], .tup [], .tup [], .tup []], []⟩ S _
  refine q_seq e0 ?_
  refine q_region e1 rfl ?_
  refine q_op (dst := some 4) rfl (fun _ ho => ok_assign ho (.bool _)) ?_
  refine hr_region_end ?_
  try dsimp only [HAct.put, List.set_cons_zero, List.set_cons_succ]
  refine q_seq e2 ?_
  refine q_seq e3 ?_
  refine q_region e4 rfl ?_
  obtain ⟨p1, hp1, h⟩ := bindo h
  refine q_call (dst := some 19) rfl (.func _) Evs.nil (HInv.static rollcalllaw09_awake.at_ rollcalllaw09_awake.body (rollcalllaw09_awake.snd hD hH hp1)) ?_
  rintro _ _ ⟨rfl, rfl⟩
  refine q_op (dst := some 20) rfl (fun _ ho => ok_not ho (.tmp rfl)) ?_
  refine hr_region_end ?_
  try dsimp only [HAct.put, List.set_cons_zero, List.set_cons_succ]
  rcases ifc h with ⟨hc2, h⟩ | ⟨hc2, h⟩
  · refine q_cond_t e5 (.tmp rfl) hc2 ?_
    refine q_seq e6 ?_
    refine q_region e7 rfl ?_
    refine q_op (dst := some 4) rfl (fun _ ho => ok_assign ho (.bool _)) ?_
    refine hr_region_end ?_
    try dsimp only [HAct.put, List.set_cons_zero, List.set_cons_succ]
    cases h
    exact q_ret e8 at_.at_ rfl (res1 rfl rfl) ⟨rfl, rfl⟩
  · refine q_cond_f e5 (.tmp rfl) (bfalse hc2) ?_
    refine q_skipc e9 ?_
    refine q_seq e10 ?_
    refine q_seq e11 ?_
    refine q_region e12 rfl ?_
    refine q_op (dst := some 21) rfl (fun _ ho => ok_move ho (.tmp rfl)) ?_
    obtain ⟨p3, hp3, h⟩ := bindo h
    refine q_call (dst := some 22) rfl (.func _) (.cons (.tmp rfl) Evs.nil) (HInv.static rollcalllaw09_great.at_ rollcalllaw09_great.body (rollcalllaw09_great.snd  hp3)) ?_
    rintro _ _ ⟨rfl, rfl⟩
    refine hr_region_end ?_
    try dsimp only [HAct.put, List.set_cons_zero, List.set_cons_succ]
    rcases ifc h with ⟨hc4, h⟩ | ⟨hc4, h⟩
    · refine q_cond_t e13 (.tmp rfl) hc4 ?_
      refine q_seq e14 ?_
      refine q_region e15 rfl ?_
      refine q_op (dst := some 4) rfl (fun _ ho => ok_assign ho (.bool _)) ?_
      refine hr_region_end ?_
      try dsimp only [HAct.put, List.set_cons_zero, List.set_cons_succ]
      cases h
      exact q_ret e16 at_.at_ rfl (res1 rfl rfl) ⟨rfl, rfl⟩
    · refine q_cond_f e13 (.tmp rfl) (bfalse hc4) ?_
      refine q_skipc e17 ?_
      refine q_seq e18 ?_
      refine q_region e19 rfl ?_
      obtain ⟨p5, hp5, h⟩ := bindo h
      refine q_call (dst := some 23) rfl (.func _) Evs.nil (HInv.static timer_New_string.at_ timer_New_string.body (timer_New_string.snd  hp5)) ?_
      rintro _ _ ⟨rfl, rfl⟩
      refine q_op (dst := some 5) rfl (fun _ ho => ok_assign ho (.tmp rfl)) ?_
      refine hr_region_end ?_
      try dsimp only [HAct.put, List.set_cons_zero, List.set_cons_succ]
      refine q_seq e20 ?_
      refine q_region e21 rfl ?_
      refine q_op (dst := some 24) rfl (fun _ ho => ok_build (is := []) (xs := []) (r := [(Sl.hv Sl.nil)]) st30 ho rfl rfl Evs.nil rfl) ?_
      obtain ⟨p6, hp6, h⟩ := leto h
      refine q_op (dst := some 25) rfl (fun _ ho => ok_box_e ho (.tmp rfl) (Nat.zero_lt_succ _) rfl hp6) ?_
      refine q_op (dst := some 6) rfl (fun _ ho => ok_assign ho (.tmp rfl)) ?_
      refine hr_region_end ?_
      try dsimp only [HAct.put, List.set_cons_zero, List.set_cons_succ]
      refine q_seq e22 ?_
      refine q_seq e23 ?_
      refine q_region e24 rfl ?_
      refine q_op (dst := some 7) rfl (fun _ ho => ok_assign ho (.int _ _)) ?_
      refine hr_region_end ?_
      try dsimp only [HAct.put, List.set_cons_zero, List.set_cons_succ]
      refine q_block e25 ?_
      refine q_loop e26 ?_
      try dsimp only [HAct.put, List.set_cons_zero, List.set_cons_succ]
      exact L0_snd hD hH h
end
end rollcalllaw09_TimerPlays
section
variable {base : Nat} {W0 : World} {β0 : Bt}
def call_26 (D : Dp) (H : Hd) (k : Nat) (vs : List HV) (S : HS) : Option (HV × HS) :=
  Option.bind (args2 vs) fun a =>
  Option.bind (dA2 a.1) fun p0 =>
  Option.bind (dS p0.1) fun p1 =>
  Option.bind (dI .i64 p0.2) fun p2 =>
  Option.bind (dA2 a.2) fun p3 =>
  Option.bind (dS p3.1) fun p4 =>
  Option.bind (dI .i64 p3.2) fun p5 =>
  Option.bind (timer_compare_string.f k p1 p2 p4 p5 S) fun q =>
  some ((.int .i64 q.1), q.2)
theorem call_26_snd {D : Dp} {H : Hd} {k : Nat} (hD : DSound Try.prog base W0 D) (hH : HSound Try.prog base W0 β0 H) {vs : List HV} {S : HS} {p : HV × HS} (h : call_26 D H k vs S = some p) : HCall Try.prog base W0 β0 26 vs S (fun v1 S1 => v1 = p.1 ∧ S1 = p.2) := by
  unfold call_26 at h
  obtain ⟨a, ha, h⟩ := bindo h
  obtain ⟨p0, hp0, h⟩ := bindo h
  obtain ⟨p1, hp1, h⟩ := bindo h
  obtain ⟨p2, hp2, h⟩ := bindo h
  obtain ⟨p3, hp3, h⟩ := bindo h
  obtain ⟨p4, hp4, h⟩ := bindo h
  obtain ⟨p5, hp5, h⟩ := bindo h
  obtain ⟨q, hq, h⟩ := bindo h
  rw [args2_out ha, dA2_out hp0, dS_out hp1, dI_out hp2, dA2_out hp3, dS_out hp4, dI_out hp5]
  cases h
  exact timer_compare_string.snd hq
def call_40 (D : Dp) (H : Hd) (k : Nat) (vs : List HV) (S : HS) : Option (HV × HS) :=
  Option.bind (args2 vs) fun a =>
  Option.bind (dF a.1) fun p0 =>
  Option.bind (dP a.2) fun p1 =>
  Option.bind (timer_Table_string_Due_1.f D H k p0 p1 S) fun q =>
  some (.tup [], q.2)
theorem call_40_snd {D : Dp} {H : Hd} {k : Nat} (hD : DSound Try.prog base W0 D) (hH : HSound Try.prog base W0 β0 H) {vs : List HV} {S : HS} {p : HV × HS} (h : call_40 D H k vs S = some p) : HCall Try.prog base W0 β0 40 vs S (fun v1 S1 => v1 = p.1 ∧ S1 = p.2) := by
  unfold call_40 at h
  obtain ⟨a, ha, h⟩ := bindo h
  obtain ⟨p0, hp0, h⟩ := bindo h
  obtain ⟨p1, hp1, h⟩ := bindo h
  obtain ⟨q, hq, h⟩ := bindo h
  rw [args2_out ha, dF_out hp0, dP_out hp1]
  cases h
  exact timer_Table_string_Due_1.snd hD hH hq
def disp (k : Nat) : Nat → Dp
  | 0 => fun _ _ _ _ => none
  | n + 1 => fun H fv vs S => match fv with
    | .fn (.yield l) [] [] => Option.bind (H l) fun r => r vs S
    | .fn (.func f) xs ys => if f = 26 then call_26 (disp k n) H k (xs ++ vs ++ ys) S else if f = 40 then call_40 (disp k n) H k (xs ++ vs ++ ys) S else none
    | _ => none
theorem disp_func {k n : Nat} {H : Hd} {f : Nat} {xs ys vs : List HV} {S : HS} : disp k (n + 1) H (.fn (.func f) xs ys) vs S = (if f = 26 then call_26 (disp k n) H k (xs ++ vs ++ ys) S else if f = 40 then call_40 (disp k n) H k (xs ++ vs ++ ys) S else none) := rfl
theorem disp_yield {k n : Nat} {H : Hd} {l : Nat} {vs : List HV} {S : HS} : disp k (n + 1) H (.fn (.yield l) [] []) vs S = Option.bind (H l) fun r => r vs S := rfl
theorem disp_snd {k : Nat} : ∀ n, DSound Try.prog base W0 (disp k n) := by
  intro n
  induction n with
  | zero => intro _ _ _ _ _ _ _ _ h; cases h
  | succ n ih =>
    intro β0 H hH fv vs S v S' h
    unfold disp at h
    split at h
    · obtain ⟨r, hr, h⟩ := bindo h
      exact hH _ _ hr _ _ _ _ h
    · skip
      rcases ifc h with ⟨hf, h⟩ | ⟨hf, h⟩
      · subst hf; exact HInv.func timer_compare_string.at_ timer_compare_string.body (call_26_snd (k := k) ih hH h)
      rcases ifc h with ⟨hf, h⟩ | ⟨hf, h⟩
      · subst hf; exact HInv.func timer_Table_string_Due_1.at_ timer_Table_string_Due_1.body (call_40_snd (k := k) ih hH h)
      cases h
    · cases h
end
end Go.Proofs.Ytlfdfkldolgkoaa.X
