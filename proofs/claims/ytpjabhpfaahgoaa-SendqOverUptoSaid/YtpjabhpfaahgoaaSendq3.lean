/- Functions of the program, each as a Lean function over the layer HL: a call answers what the Lean function answers, where it answers. -/
import Derived.Test.YtpjabhpfaahgoaaProg
import Derived.Test.YtpjabhpfaahgoaaSendq2
namespace Go.Proofs.Ytpjabhpfaahgoaa.X
open Go.Proofs.Ytpjabhpfaahgoaa.HL
set_option linter.unusedVariables false
set_option linter.unusedSimpArgs false
set_option maxRecDepth 20000
set_option maxHeartbeats 4000000
namespace rollcalllaw08_SendqPieces
abbrev id : Nat := 4
theorem at_ : FnAt Try.prog 4 Try.f4 := ⟨Try.func4, by kernel_rfl⟩
noncomputable def c0 : Code := (Try.f4.body).getD .skip
noncomputable def c1 : Code := match c0 with | .seq x _ => x | _ => .skip
noncomputable def c2 : Code := match c0 with | .seq _ x => x | _ => .skip
noncomputable def c3 : Code := match c2 with | .seq x _ => x | _ => .skip
noncomputable def c4 : Code := match c3 with | .seq x _ => x | _ => .skip
noncomputable def c5 : Code := match c3 with | .seq _ x => x | _ => .skip
noncomputable def c6 : Code := match c5 with | .cond _ x _ => x | _ => .skip
noncomputable def c7 : Code := match c6 with | .seq x _ => x | _ => .skip
noncomputable def c8 : Code := match c6 with | .seq _ x => x | _ => .skip
noncomputable def c9 : Code := match c5 with | .cond _ _ x => x | _ => .skip
noncomputable def c10 : Code := match c2 with | .seq _ x => x | _ => .skip
noncomputable def c11 : Code := match c10 with | .seq x _ => x | _ => .skip
noncomputable def c12 : Code := match c11 with | .seq x _ => x | _ => .skip
noncomputable def c13 : Code := match c11 with | .seq _ x => x | _ => .skip
noncomputable def c14 : Code := match c13 with | .cond _ x _ => x | _ => .skip
noncomputable def c15 : Code := match c14 with | .seq x _ => x | _ => .skip
noncomputable def c16 : Code := match c14 with | .seq _ x => x | _ => .skip
noncomputable def c17 : Code := match c13 with | .cond _ _ x => x | _ => .skip
noncomputable def c18 : Code := match c10 with | .seq _ x => x | _ => .skip
noncomputable def c19 : Code := match c18 with | .seq x _ => x | _ => .skip
noncomputable def c20 : Code := match c18 with | .seq _ x => x | _ => .skip
noncomputable def c21 : Code := match c20 with | .seq x _ => x | _ => .skip
noncomputable def c22 : Code := match c20 with | .seq _ x => x | _ => .skip
noncomputable def c23 : Code := match c22 with | .seq x _ => x | _ => .skip
noncomputable def c24 : Code := match c23 with | .seq x _ => x | _ => .skip
noncomputable def c25 : Code := match c23 with | .seq _ x => x | _ => .skip
noncomputable def c26 : Code := match c25 with | .cond _ x _ => x | _ => .skip
noncomputable def c27 : Code := match c26 with | .seq x _ => x | _ => .skip
noncomputable def c28 : Code := match c26 with | .seq _ x => x | _ => .skip
noncomputable def c29 : Code := match c25 with | .cond _ _ x => x | _ => .skip
noncomputable def c30 : Code := match c22 with | .seq _ x => x | _ => .skip
noncomputable def c31 : Code := match c30 with | .seq x _ => x | _ => .skip
noncomputable def c32 : Code := match c31 with | .seq x _ => x | _ => .skip
noncomputable def c33 : Code := match c31 with | .seq _ x => x | _ => .skip
noncomputable def c34 : Code := match c33 with | .block _ x => x | _ => .skip
noncomputable def c35 : Code := match c34 with | .loop x => x | _ => .skip
noncomputable def c36 : Code := match c35 with | .seq x _ => x | _ => .skip
noncomputable def c37 : Code := match c36 with | .seq x _ => x | _ => .skip
noncomputable def c38 : Code := match c36 with | .seq _ x => x | _ => .skip
noncomputable def c39 : Code := match c38 with | .cond _ x _ => x | _ => .skip
noncomputable def c40 : Code := match c38 with | .cond _ _ x => x | _ => .skip
noncomputable def c41 : Code := match c35 with | .seq _ x => x | _ => .skip
noncomputable def c42 : Code := match c41 with | .seq x _ => x | _ => .skip
noncomputable def c43 : Code := match c42 with | .block _ x => x | _ => .skip
noncomputable def c44 : Code := match c43 with | .seq x _ => x | _ => .skip
noncomputable def c45 : Code := match c43 with | .seq _ x => x | _ => .skip
noncomputable def c46 : Code := match c45 with | .cond _ x _ => x | _ => .skip
noncomputable def c47 : Code := match c46 with | .seq x _ => x | _ => .skip
noncomputable def c48 : Code := match c46 with | .seq _ x => x | _ => .skip
noncomputable def c49 : Code := match c45 with | .cond _ _ x => x | _ => .skip
noncomputable def c50 : Code := match c41 with | .seq _ x => x | _ => .skip
noncomputable def c51 : Code := match c30 with | .seq _ x => x | _ => .skip
noncomputable def c52 : Code := match c51 with | .seq x _ => x | _ => .skip
noncomputable def c53 : Code := match c51 with | .seq _ x => x | _ => .skip
noncomputable def c54 : Code := match c53 with | .seq x _ => x | _ => .skip
noncomputable def c55 : Code := match c54 with | .seq x _ => x | _ => .skip
noncomputable def c56 : Code := match c54 with | .seq _ x => x | _ => .skip
noncomputable def c57 : Code := match c56 with | .block _ x => x | _ => .skip
noncomputable def c58 : Code := match c57 with | .loop x => x | _ => .skip
noncomputable def c59 : Code := match c58 with | .seq x _ => x | _ => .skip
noncomputable def c60 : Code := match c59 with | .seq x _ => x | _ => .skip
noncomputable def c61 : Code := match c59 with | .seq _ x => x | _ => .skip
noncomputable def c62 : Code := match c61 with | .cond _ x _ => x | _ => .skip
noncomputable def c63 : Code := match c61 with | .cond _ _ x => x | _ => .skip
noncomputable def c64 : Code := match c58 with | .seq _ x => x | _ => .skip
noncomputable def c65 : Code := match c64 with | .seq x _ => x | _ => .skip
noncomputable def c66 : Code := match c65 with | .block _ x => x | _ => .skip
noncomputable def c67 : Code := match c66 with | .seq x _ => x | _ => .skip
noncomputable def c68 : Code := match c66 with | .seq _ x => x | _ => .skip
noncomputable def c69 : Code := match c68 with | .seq x _ => x | _ => .skip
noncomputable def c70 : Code := match c68 with | .seq _ x => x | _ => .skip
noncomputable def c71 : Code := match c64 with | .seq _ x => x | _ => .skip
noncomputable def c72 : Code := match c53 with | .seq _ x => x | _ => .skip
noncomputable def c73 : Code := match c72 with | .seq x _ => x | _ => .skip
noncomputable def c74 : Code := match c72 with | .seq _ x => x | _ => .skip
theorem e0 : c0 = .seq c1 c2 := by kernel_rfl
noncomputable def r1 : Array Oper := match c1 with | .region _ x _ => x | _ => #[]
theorem e1 : c1 = .region 0 r1 false := by kernel_rfl
theorem e2 : c2 = .seq c3 c10 := by kernel_rfl
theorem e3 : c3 = .seq c4 c5 := by kernel_rfl
noncomputable def r4 : Array Oper := match c4 with | .region _ x _ => x | _ => #[]
theorem e4 : c4 = .region 1 r4 false := by kernel_rfl
theorem e5 : c5 = .cond (.tmp 15) c6 c9 := by kernel_rfl
theorem e6 : c6 = .seq c7 c8 := by kernel_rfl
noncomputable def r7 : Array Oper := match c7 with | .region _ x _ => x | _ => #[]
theorem e7 : c7 = .region 2 r7 false := by kernel_rfl
theorem e8 : c8 = .ret := by kernel_rfl
theorem e9 : c9 = .skip := by kernel_rfl
theorem e10 : c10 = .seq c11 c18 := by kernel_rfl
theorem e11 : c11 = .seq c12 c13 := by kernel_rfl
noncomputable def r12 : Array Oper := match c12 with | .region _ x _ => x | _ => #[]
theorem e12 : c12 = .region 3 r12 false := by kernel_rfl
theorem e13 : c13 = .cond (.tmp 23) c14 c17 := by kernel_rfl
theorem e14 : c14 = .seq c15 c16 := by kernel_rfl
noncomputable def r15 : Array Oper := match c15 with | .region _ x _ => x | _ => #[]
theorem e15 : c15 = .region 4 r15 false := by kernel_rfl
theorem e16 : c16 = .ret := by kernel_rfl
theorem e17 : c17 = .skip := by kernel_rfl
theorem e18 : c18 = .seq c19 c20 := by kernel_rfl
noncomputable def r19 : Array Oper := match c19 with | .region _ x _ => x | _ => #[]
theorem e19 : c19 = .region 5 r19 false := by kernel_rfl
theorem e20 : c20 = .seq c21 c22 := by kernel_rfl
noncomputable def r21 : Array Oper := match c21 with | .region _ x _ => x | _ => #[]
theorem e21 : c21 = .region 6 r21 false := by kernel_rfl
theorem e22 : c22 = .seq c23 c30 := by kernel_rfl
theorem e23 : c23 = .seq c24 c25 := by kernel_rfl
noncomputable def r24 : Array Oper := match c24 with | .region _ x _ => x | _ => #[]
theorem e24 : c24 = .region 7 r24 false := by kernel_rfl
theorem e25 : c25 = .cond (.tmp 37) c26 c29 := by kernel_rfl
theorem e26 : c26 = .seq c27 c28 := by kernel_rfl
noncomputable def r27 : Array Oper := match c27 with | .region _ x _ => x | _ => #[]
theorem e27 : c27 = .region 8 r27 false := by kernel_rfl
theorem e28 : c28 = .ret := by kernel_rfl
theorem e29 : c29 = .skip := by kernel_rfl
theorem e30 : c30 = .seq c31 c51 := by kernel_rfl
theorem e31 : c31 = .seq c32 c33 := by kernel_rfl
noncomputable def r32 : Array Oper := match c32 with | .region _ x _ => x | _ => #[]
theorem e32 : c32 = .region 9 r32 false := by kernel_rfl
theorem e33 : c33 = .block 0 c34 := by kernel_rfl
theorem e34 : c34 = .loop c35 := by kernel_rfl
theorem e35 : c35 = .seq c36 c41 := by kernel_rfl
theorem e36 : c36 = .seq c37 c38 := by kernel_rfl
noncomputable def r37 : Array Oper := match c37 with | .region _ x _ => x | _ => #[]
theorem e37 : c37 = .region 10 r37 false := by kernel_rfl
theorem e38 : c38 = .cond (.tmp 41) c39 c40 := by kernel_rfl
theorem e39 : c39 = .skip := by kernel_rfl
theorem e40 : c40 = .exit 0 := by kernel_rfl
theorem e41 : c41 = .seq c42 c50 := by kernel_rfl
theorem e42 : c42 = .block 1 c43 := by kernel_rfl
theorem e43 : c43 = .seq c44 c45 := by kernel_rfl
noncomputable def r44 : Array Oper := match c44 with | .region _ x _ => x | _ => #[]
theorem e44 : c44 = .region 12 r44 true := by kernel_rfl
theorem e45 : c45 = .cond (.tmp 64) c46 c49 := by kernel_rfl
theorem e46 : c46 = .seq c47 c48 := by kernel_rfl
noncomputable def r47 : Array Oper := match c47 with | .region _ x _ => x | _ => #[]
theorem e47 : c47 = .region 13 r47 false := by kernel_rfl
theorem e48 : c48 = .ret := by kernel_rfl
theorem e49 : c49 = .skip := by kernel_rfl
noncomputable def r50 : Array Oper := match c50 with | .region _ x _ => x | _ => #[]
theorem e50 : c50 = .region 11 r50 false := by kernel_rfl
theorem e51 : c51 = .seq c52 c53 := by kernel_rfl
noncomputable def r52 : Array Oper := match c52 with | .region _ x _ => x | _ => #[]
theorem e52 : c52 = .region 14 r52 false := by kernel_rfl
theorem e53 : c53 = .seq c54 c72 := by kernel_rfl
theorem e54 : c54 = .seq c55 c56 := by kernel_rfl
noncomputable def r55 : Array Oper := match c55 with | .region _ x _ => x | _ => #[]
theorem e55 : c55 = .region 15 r55 false := by kernel_rfl
theorem e56 : c56 = .block 2 c57 := by kernel_rfl
theorem e57 : c57 = .loop c58 := by kernel_rfl
theorem e58 : c58 = .seq c59 c64 := by kernel_rfl
theorem e59 : c59 = .seq c60 c61 := by kernel_rfl
noncomputable def r60 : Array Oper := match c60 with | .region _ x _ => x | _ => #[]
theorem e60 : c60 = .region 16 r60 false := by kernel_rfl
theorem e61 : c61 = .cond (.tmp 74) c62 c63 := by kernel_rfl
theorem e62 : c62 = .skip := by kernel_rfl
theorem e63 : c63 = .exit 2 := by kernel_rfl
theorem e64 : c64 = .seq c65 c71 := by kernel_rfl
theorem e65 : c65 = .block 3 c66 := by kernel_rfl
theorem e66 : c66 = .seq c67 c68 := by kernel_rfl
noncomputable def r67 : Array Oper := match c67 with | .region _ x _ => x | _ => #[]
theorem e67 : c67 = .region 18 r67 false := by kernel_rfl
theorem e68 : c68 = .seq c69 c70 := by kernel_rfl
noncomputable def r69 : Array Oper := match c69 with | .region _ x _ => x | _ => #[]
theorem e69 : c69 = .region 19 r69 false := by kernel_rfl
noncomputable def r70 : Array Oper := match c70 with | .region _ x _ => x | _ => #[]
theorem e70 : c70 = .region 20 r70 false := by kernel_rfl
noncomputable def r71 : Array Oper := match c71 with | .region _ x _ => x | _ => #[]
theorem e71 : c71 = .region 17 r71 false := by kernel_rfl
theorem e72 : c72 = .seq c73 c74 := by kernel_rfl
noncomputable def r73 : Array Oper := match c73 with | .region _ x _ => x | _ => #[]
theorem e73 : c73 = .region 21 r73 true := by kernel_rfl
theorem e74 : c74 = .ret := by kernel_rfl
theorem body : Try.f4.body = some c0 := by kernel_rfl
section
variable {base : Nat} {W0 : World} {β0 : Bt}
def J3 (D : Dp) (H : Hd) (k : Nat) (rec0 : Sl → Sl → (Option HA) → (Option HA) → Int → HS → Option ((Bool) × HS)) (y0 : Sl) (y1 : Sl) (y5 : (Option HA)) (y7 : (Option HA)) (y9 : Int) (y64 : Bool) (S : HS) : Option ((Bool) × HS) :=
  (if y64 = true then
  (Option.bind (HS.idx S y0 y9 1) fun p14 =>
  (Option.bind (HS.ldS S p14) fun p15 =>
  some ((decide ((List.length p15 : Int) > 200)), S))) else
  rec0 y0 y1 y5 y7 (w64 (y9 + 1)) S)
theorem J3_snd {D : Dp} {H : Hd} {k : Nat} {rec0 : Sl → Sl → (Option HA) → (Option HA) → Int → HS → Option ((Bool) × HS)} (hD : DSound Try.prog base W0 D) (hH : HSound Try.prog base W0 β0 H) (hrec0 : ∀ ⦃y0 : Sl⦄ ⦃y1 : Sl⦄ ⦃y5 : (Option HA)⦄ ⦃y7 : (Option HA)⦄ ⦃y9 : Int⦄ ⦃S : HS⦄ ⦃p : (Bool) × HS⦄ ⦃g2 g3 g4 g6 g8 g10 g11 g12 g13 g14 g15 g16 g17 g18 g19 g20 g21 g22 g23 g24 g25 g26 g27 g28 g29 g30 g31 g32 g33 g34 g35 g36 g37 g38 g39 g40 g41 g42 g43 g44 g45 g46 g47 g48 g49 g50 g51 g52 g53 g54 g55 g56 g57 g58 g59 g60 g61 g62 g63 g64 g65 g66 g67 g68 g69 g70 g71 g72 g73 g74 g75 g76 g77 g78 g79 g80 g81 g82 g83 g84 g85 g86 g87 g88 g89 g90 g91 g92 g93 g94 g95 g96 g97 g98 g99 g100 g101 g102 g103 g104 g105 g106 g107 g108 g109 g110 g111 g112 g113 g114 g115 g116 g117 g118 g119 g120 : HV⦄, rec0 y0 y1 y5 y7 y9 S = some p → HRun Try.prog base W0 β0 4 none [.inLoop c35, .inBlock 0, .code c51] ⟨[(Sl.hv y0), (Sl.hv y1), g2, g3, g4, (.ptr y5), g6, (.ptr y7), g8, (.int .i64 y9), g10, g11, g12, g13, g14, g15, g16, g17, g18, g19, g20, g21, g22, g23, g24, g25, g26, g27, g28, g29, g30, g31, g32, g33, g34, g35, g36, g37, g38, g39, g40, g41, g42, g43, g44, g45, g46, g47, g48, g49, g50, g51, g52, g53, g54, g55, g56, g57, g58, g59, g60, g61, g62, g63, g64, g65, g66, g67, g68, g69, g70, g71, g72, g73, g74, g75, g76, g77, g78, g79, g80, g81, g82, g83, g84, g85, g86, g87, g88, g89, g90, g91, g92, g93, g94, g95, g96, g97, g98, g99, g100, g101, g102, g103, g104, g105, g106, g107, g108, g109, g110, g111, g112, g113, g114, g115, g116, g117, g118, g119, g120], []⟩ S (fun v S1 => v = (.bool p.1) ∧ S1 = p.2)) {y0 : Sl} {y1 : Sl} {y5 : (Option HA)} {y7 : (Option HA)} {y9 : Int} {y64 : Bool} {S : HS} {p : (Bool) × HS} {g2 g3 g4 g6 g8 g10 g11 g12 g13 g14 g15 g16 g17 g18 g19 g20 g21 g22 g23 g24 g25 g26 g27 g28 g29 g30 g31 g32 g33 g34 g35 g36 g37 g38 g39 g40 g41 g42 g43 g44 g45 g46 g47 g48 g49 g50 g51 g52 g53 g54 g55 g56 g57 g58 g59 g60 g61 g62 g63 g65 g66 g67 g68 g69 g70 g71 g72 g73 g74 g75 g76 g77 g78 g79 g80 g81 g82 g83 g84 g85 g86 g87 g88 g89 g90 g91 g92 g93 g94 g95 g96 g97 g98 g99 g100 g101 g102 g103 g104 g105 g106 g107 g108 g109 g110 g111 g112 g113 g114 g115 g116 g117 g118 g119 g120 : HV} (h : J3 D H k rec0 y0 y1 y5 y7 y9 y64 S = some p) : HRun Try.prog base W0 β0 4 none [.code c45, .inBlock 1, .code c50, .inLoop c35, .inBlock 0, .code c51] ⟨[(Sl.hv y0), (Sl.hv y1), g2, g3, g4, (.ptr y5), g6, (.ptr y7), g8, (.int .i64 y9), g10, g11, g12, g13, g14, g15, g16, g17, g18, g19, g20, g21, g22, g23, g24, g25, g26, g27, g28, g29, g30, g31, g32, g33, g34, g35, g36, g37, g38, g39, g40, g41, g42, g43, g44, g45, g46, g47, g48, g49, g50, g51, g52, g53, g54, g55, g56, g57, g58, g59, g60, g61, g62, g63, (.bool y64), g65, g66, g67, g68, g69, g70, g71, g72, g73, g74, g75, g76, g77, g78, g79, g80, g81, g82, g83, g84, g85, g86, g87, g88, g89, g90, g91, g92, g93, g94, g95, g96, g97, g98, g99, g100, g101, g102, g103, g104, g105, g106, g107, g108, g109, g110, g111, g112, g113, g114, g115, g116, g117, g118, g119, g120], []⟩ S (fun v S1 => v = (.bool p.1) ∧ S1 = p.2) := by
  unfold J3 at h
  rcases ifc h with ⟨hc13, h⟩ | ⟨hc13, h⟩
  · refine q_cond_t e45 (.tmp rfl) hc13 ?_
    refine q_seq e46 ?_
    refine q_region e47 rfl ?_
    refine q_op (dst := some 65) rfl (fun _ ho => ok_move ho (.tmp rfl)) ?_
    refine q_op (dst := some 66) rfl (fun _ ho => ok_move ho (.tmp rfl)) ?_
    obtain ⟨p14, hp14, h⟩ := bindo h
    refine q_op (dst := some 67) rfl (fun _ ho => ok_indexAddr (s := y0) ho tu36 sz9 (.tmp rfl) (.tmp rfl) hp14) ?_
    obtain ⟨p15, hp15, h⟩ := bindo h
    refine q_op (dst := some 68) rfl (fun _ ho => ok_load_s ho sc9 (.tmp rfl) rfl (ldS_out hp15)) ?_
    try dsimp only [HAct.put, List.set_cons_zero, List.set_cons_succ]
    refine q_op (dst := some 69) rfl (fun _ ho => ok_len_str ho rfl tu9 (.tmp rfl)) ?_
    refine q_op (dst := some 70) rfl (fun _ ho => ok_ibin ho (.tmp rfl) (.int _ _) rfl) ?_
    refine q_op (dst := some 4) rfl (fun _ ho => ok_assign ho (.tmp rfl)) ?_
    refine hr_region_end ?_
    try dsimp only [HAct.put, List.set_cons_zero, List.set_cons_succ]
    cases h
    exact q_ret e48 at_.at_ rfl (res1 rfl rfl) ⟨rfl, rfl⟩
  · refine q_cond_f e45 (.tmp rfl) (bfalse hc13) ?_
    refine q_skipc e49 ?_
    refine hr_inBlock ?_
    refine q_region e50 rfl ?_
    refine q_op (dst := some 42) rfl (fun _ ho => ok_move ho (.tmp rfl)) ?_
    refine q_op (dst := some 43) rfl (fun _ ho => ok_ibin ho (.tmp rfl) (.int _ _) rfl) ?_
    refine q_op (dst := some 9) rfl (fun _ ho => ok_assign ho (.tmp rfl)) ?_
    refine hr_region_end ?_
    try dsimp only [HAct.put, List.set_cons_zero, List.set_cons_succ]
    try dsimp only [HAct.put, List.set_cons_zero, List.set_cons_succ]
    exact hrec0 h
def L4 (D : Dp) (H : Hd) (k : Nat) : Nat → Sl → (Option HA) → (Option HA) → Int → (List UInt8) → Int → HS → Option ((Bool) × HS)
  | 0, _, _, _, _, _, _, _ => none
  | n + 1, y1, y5, y7, y10, y11, y12, S =>
    (if y12 < (Sl.len y1 : Int) then
    (Option.bind (HS.idx S y1 y12 1) fun p27 =>
    (Option.bind (HS.ldI S .u8 p27) fun p28 =>
    (Option.bind (sendq_Queue_Drain.f k y7 (w64 p28) S) fun p29 =>
    (Option.bind (HS.text p29.2 p29.1) fun p30 =>
    (if List.length y11 + List.length p30 ≤ 9223372036854775807 then
    (L4 D H k n) y1 y5 y7 (w64 (y10 + (Sl.len p29.1 : Int))) (y11 ++ p30) (w64 (y12 + 1)) p29.2 else none))))) else
    (Option.bind (sendq_Queue_Drain.f k y5 y10 S) fun p32 =>
    (Option.bind (HS.text p32.2 p32.1) fun p33 =>
    (if p33 = y11 then
    (Option.bind (sendq_Queue_Len.f y5 p32.2) fun p35 =>
    (Option.bind (sendq_Queue_Len.f y7 p35.2) fun p36 =>
    (if p35.1 = p36.1 then
    (Option.bind (sendq_Queue_Sent.f y5 p36.2) fun p38 =>
    (Option.bind (sendq_Queue_Sent.f y7 p38.2) fun p39 =>
    (if p38.1 = p39.1 then
    (Option.bind (sendq_Queue_Drain.f k y5 1048576 p39.2) fun p41 =>
    (Option.bind (HS.text p41.2 p41.1) fun p42 =>
    (Option.bind (sendq_Queue_Drain.f k y7 1048576 p41.2) fun p43 =>
    (Option.bind (HS.text p43.2 p41.1) fun p44 =>
    (if p44 = p42 then
    (Option.bind (HS.text p43.2 p43.1) fun p46 =>
    some ((decide (p42 = p46)), p43.2)) else none))))) else
    some (false, p39.2)))) else
    some (false, p36.2)))) else
    some (false, p32.2)))))
theorem L4_snd {D : Dp} {H : Hd} {k : Nat} (hD : DSound Try.prog base W0 D) (hH : HSound Try.prog base W0 β0 H)  : ∀ {n : Nat} ⦃y1 : Sl⦄ ⦃y5 : (Option HA)⦄ ⦃y7 : (Option HA)⦄ ⦃y10 : Int⦄ ⦃y11 : (List UInt8)⦄ ⦃y12 : Int⦄ ⦃S : HS⦄ ⦃p : (Bool) × HS⦄ ⦃g0 g2 g3 g4 g6 g8 g9 g13 g14 g15 g16 g17 g18 g19 g20 g21 g22 g23 g24 g25 g26 g27 g28 g29 g30 g31 g32 g33 g34 g35 g36 g37 g38 g39 g40 g41 g42 g43 g44 g45 g46 g47 g48 g49 g50 g51 g52 g53 g54 g55 g56 g57 g58 g59 g60 g61 g62 g63 g64 g65 g66 g67 g68 g69 g70 g71 g72 g73 g74 g75 g76 g77 g78 g79 g80 g81 g82 g83 g84 g85 g86 g87 g88 g89 g90 g91 g92 g93 g94 g95 g96 g97 g98 g99 g100 g101 g102 g103 g104 g105 g106 g107 g108 g109 g110 g111 g112 g113 g114 g115 g116 g117 g118 g119 g120 : HV⦄, L4 D H k n y1 y5 y7 y10 y11 y12 S = some p → HRun Try.prog base W0 β0 4 none [.inLoop c58, .inBlock 2, .code c72] ⟨[g0, (Sl.hv y1), g2, g3, g4, (.ptr y5), g6, (.ptr y7), g8, g9, (.int .i64 y10), (.str y11), (.int .i64 y12), g13, g14, g15, g16, g17, g18, g19, g20, g21, g22, g23, g24, g25, g26, g27, g28, g29, g30, g31, g32, g33, g34, g35, g36, g37, g38, g39, g40, g41, g42, g43, g44, g45, g46, g47, g48, g49, g50, g51, g52, g53, g54, g55, g56, g57, g58, g59, g60, g61, g62, g63, g64, g65, g66, g67, g68, g69, g70, g71, g72, g73, g74, g75, g76, g77, g78, g79, g80, g81, g82, g83, g84, g85, g86, g87, g88, g89, g90, g91, g92, g93, g94, g95, g96, g97, g98, g99, g100, g101, g102, g103, g104, g105, g106, g107, g108, g109, g110, g111, g112, g113, g114, g115, g116, g117, g118, g119, g120], []⟩ S (fun v S1 => v = (.bool p.1) ∧ S1 = p.2) := by
  intro n
  induction n with
  | zero => intro _ _ _ _ _ _ _ _ _ _ _ _ _ _ _ _ _ _ _ _ _ _ _ _ _ _ _ _ _ _ _ _ _ _ _ _ _ _ _ _ _ _ _ _ _ _ _ _ _ _ _ _ _ _ _ _ _ _ _ _ _ _ _ _ _ _ _ _ _ _ _ _ _ _ _ _ _ _ _ _ _ _ _ _ _ _ _ _ _ _ _ _ _ _ _ _ _ _ _ _ _ _ _ _ _ _ _ _ _ _ _ _ _ _ _ _ _ _ _ _ _ _ _ h; cases h
  | succ n ih =>
    intro y1 y5 y7 y10 y11 y12 S p g0 g2 g3 g4 g6 g8 g9 g13 g14 g15 g16 g17 g18 g19 g20 g21 g22 g23 g24 g25 g26 g27 g28 g29 g30 g31 g32 g33 g34 g35 g36 g37 g38 g39 g40 g41 g42 g43 g44 g45 g46 g47 g48 g49 g50 g51 g52 g53 g54 g55 g56 g57 g58 g59 g60 g61 g62 g63 g64 g65 g66 g67 g68 g69 g70 g71 g72 g73 g74 g75 g76 g77 g78 g79 g80 g81 g82 g83 g84 g85 g86 g87 g88 g89 g90 g91 g92 g93 g94 g95 g96 g97 g98 g99 g100 g101 g102 g103 g104 g105 g106 g107 g108 g109 g110 g111 g112 g113 g114 g115 g116 g117 g118 g119 g120 h
    simp only [L4] at h
    refine hr_inLoop ?_
    refine q_seq e58 ?_
    refine q_seq e59 ?_
    refine q_region e60 rfl ?_
    refine q_op (dst := some 71) rfl (fun _ ho => ok_move ho (.tmp rfl)) ?_
    refine q_op (dst := some 72) rfl (fun _ ho => ok_move ho (.tmp rfl)) ?_
    refine q_op (dst := some 73) rfl (fun _ ho => ok_len_sl (q := Sl.a y1) (n := Sl.len y1) (z := Sl.cap y1) ho rfl tu31 (.tmp rfl)) ?_
    refine q_op (dst := some 74) rfl (fun _ ho => ok_ibin ho (.tmp rfl) (.tmp rfl) rfl) ?_
    refine hr_region_end ?_
    try dsimp only [HAct.put, List.set_cons_zero, List.set_cons_succ]
    rcases ifc h with ⟨hc26, h⟩ | ⟨hc26, h⟩
    · refine q_cond_t e61 (.tmp rfl) (decide_eq_true hc26) ?_
      refine q_skipc e62 ?_
      refine q_seq e64 ?_
      refine q_block e65 ?_
      refine q_seq e66 ?_
      refine q_region e67 rfl ?_
      refine q_op (dst := some 77) rfl (fun _ ho => ok_move ho (.tmp rfl)) ?_
      refine q_op (dst := some 78) rfl (fun _ ho => ok_move ho (.tmp rfl)) ?_
      refine q_op (dst := some 79) rfl (fun _ ho => ok_move ho (.tmp rfl)) ?_
      obtain ⟨p27, hp27, h⟩ := bindo h
      refine q_op (dst := some 80) rfl (fun _ ho => ok_indexAddr (s := y1) ho tu31 sz5 (.tmp rfl) (.tmp rfl) hp27) ?_
      try dsimp only [HAct.put, List.set_cons_zero, List.set_cons_succ]
      obtain ⟨p28, hp28, h⟩ := bindo h
      refine q_op (dst := some 81) rfl (fun _ ho => ok_load_s ho sc5 (.tmp rfl) rfl (ldI_out hp28)) ?_
      refine q_op (dst := some 82) rfl (fun _ ho => ok_conv_int ho tu5 tu3 (.tmp rfl)) ?_
      obtain ⟨p29, hp29, h⟩ := bindo h
      refine q_call (dst := some 83) rfl (.func _) (.cons (.tmp rfl) (.cons (.tmp rfl) Evs.nil)) (HInv.static sendq_Queue_Drain.at_ sendq_Queue_Drain.body (sendq_Queue_Drain.snd  hp29)) ?_
      rintro _ _ ⟨rfl, rfl⟩
      refine q_op (dst := some 13) rfl (fun _ ho => ok_assign ho (.tmp rfl)) ?_
      refine hr_region_end ?_
      try dsimp only [HAct.put, List.set_cons_zero, List.set_cons_succ]
      refine q_seq e68 ?_
      refine q_region e69 rfl ?_
      refine q_op (dst := some 84) rfl (fun _ ho => ok_move ho (.tmp rfl)) ?_
      refine q_op (dst := some 85) rfl (fun _ ho => ok_move ho (.tmp rfl)) ?_
      refine q_op (dst := some 86) rfl (fun _ ho => ok_len_sl (q := Sl.a p29.1) (n := Sl.len p29.1) (z := Sl.cap p29.1) ho rfl tu31 (.tmp rfl)) ?_
      refine q_op (dst := some 87) rfl (fun _ ho => ok_ibin ho (.tmp rfl) (.tmp rfl) rfl) ?_
      try dsimp only [HAct.put, List.set_cons_zero, List.set_cons_succ]
      refine q_op (dst := some 10) rfl (fun _ ho => ok_assign ho (.tmp rfl)) ?_
      refine hr_region_end ?_
      try dsimp only [HAct.put, List.set_cons_zero, List.set_cons_succ]
      refine q_region e70 rfl ?_
      refine q_op (dst := some 88) rfl (fun _ ho => ok_move ho (.tmp rfl)) ?_
      refine q_op (dst := some 89) rfl (fun _ ho => ok_move ho (.tmp rfl)) ?_
      obtain ⟨p30, hp30, h⟩ := bindo h
      refine q_op (dst := some 90) rfl (fun _ ho => ok_str_of_bytes (s := p29.1) ho tu31 tu5 tu9 (.tmp rfl) hp30) ?_
      obtain ⟨hg31, h⟩ := gd h
      refine q_op (dst := some 91) rfl (fun _ ho => ok_sadd ho (.tmp rfl) (.tmp rfl) hg31) ?_
      try dsimp only [HAct.put, List.set_cons_zero, List.set_cons_succ]
      refine q_op (dst := some 11) rfl (fun _ ho => ok_assign ho (.tmp rfl)) ?_
      refine hr_region_end ?_
      try dsimp only [HAct.put, List.set_cons_zero, List.set_cons_succ]
      refine hr_inBlock ?_
      refine q_region e71 rfl ?_
      refine q_op (dst := some 75) rfl (fun _ ho => ok_move ho (.tmp rfl)) ?_
      refine q_op (dst := some 76) rfl (fun _ ho => ok_ibin ho (.tmp rfl) (.int _ _) rfl) ?_
      refine q_op (dst := some 12) rfl (fun _ ho => ok_assign ho (.tmp rfl)) ?_
      refine hr_region_end ?_
      try dsimp only [HAct.put, List.set_cons_zero, List.set_cons_succ]
      try dsimp only [HAct.put, List.set_cons_zero, List.set_cons_succ]
      exact ih h
    · refine q_cond_f e61 (.tmp rfl) (decide_eq_false hc26) ?_
      refine q_exit e63 rfl ?_
      refine q_seq e72 ?_
      refine x_start (cls := [0, 0, 2, 1, 0, 0, 0, 0, 2, 0, 2, 0, 0, 0, 0, 2, 0, 2, 0, 0, 0, 0, 2, 3, 0, 2, 1, 0, 0, 0]) (rk := [0, 1, 2, 3, 4, 5, 6, 7, 8, 9, 10, 11, 12, 13, 14, 15, 16, 17, 18, 19, 20, 21, 22, 23, 24, 25, 26, 27, 28, 29]) e73 (by kernel_rfl) ?_
      refine x_goP (f_op (dst := some 92) (ts := [5]) rfl (by intro _ _ h; cases h) (by kernel_rfl) (fun _ _ ho => ok_move ho (.tmp rfl))) rfl (by decide) (by decide) ?_
      refine x_goP (f_op (dst := some 93) (ts := [10]) rfl (by intro _ _ h; cases h) (by kernel_rfl) (fun _ _ ho => ok_move ho (.tmp rfl))) rfl (by decide) (by decide) ?_
      obtain ⟨p32, hp32, h⟩ := bindo h
      refine x_goE (e_call (dst := some 94) (ts := [92, 93]) rfl (by kernel_rfl) (.func _) (.cons (.tmp rfl) (.cons (.tmp rfl) Evs.nil)) (HInv.static sendq_Queue_Drain.at_ sendq_Queue_Drain.body (sendq_Queue_Drain.snd  hp32))) rfl trivial ?_
      obtain ⟨p33, hp33, h⟩ := bindo h
      refine x_goP (r_op (dst := some 95) (ts := [94]) rfl (by intro _ _ h; cases h) (by kernel_rfl) (fun _ ho => ok_str_of_bytes (s := p32.1) ho tu31 tu5 tu9 (.tmp rfl) hp33)) rfl (by decide) (by decide) ?_
      try dsimp only [HAct.put, List.set_cons_zero, List.set_cons_succ]
      refine x_goP (f_op (dst := some 96) (ts := [11]) rfl (by intro _ _ h; cases h) (by kernel_rfl) (fun _ _ ho => ok_move ho (.tmp rfl))) rfl (by decide) (by decide) ?_
      refine x_goP (f_op (dst := some 97) (ts := [95, 96]) rfl (by intro _ _ h; cases h) (by kernel_rfl) (fun _ _ ho => ok_sbin ho (.tmp rfl) (.tmp rfl) rfl)) rfl (by decide) (by decide) ?_
      refine x_goP (f_op (dst := some 98) (ts := [97]) rfl (by intro _ _ h; cases h) (by kernel_rfl) (fun _ _ ho => ok_move ho (.tmp rfl))) rfl (by decide) (by decide) ?_
      rcases ifc h with ⟨hc34, h⟩ | ⟨hc34, h⟩
      · refine x_goP (f_op_g (dst := some 99) (t := 98) (ts := [5, 98]) rfl (by intro _ _ h; cases h) (by kernel_rfl) rfl rfl (decide_eq_true hc34) (fun _ _ ho => ok_move ho (.tmp rfl))) rfl (by decide) (by decide) ?_
        try dsimp only [HAct.put, List.set_cons_zero, List.set_cons_succ]
        obtain ⟨p35, hp35, h⟩ := bindo h
        refine x_goE (e_call_g (dst := some 100) (t := 98) (ts := [99, 98]) rfl (by kernel_rfl) rfl rfl (decide_eq_true hc34) (.func _) (.cons (.tmp rfl) Evs.nil) (HInv.static sendq_Queue_Len.at_ sendq_Queue_Len.body (sendq_Queue_Len.snd  hp35))) rfl trivial ?_
        refine x_goP (f_op_g (dst := some 101) (t := 98) (ts := [7, 98]) rfl (by intro _ _ h; cases h) (by kernel_rfl) rfl rfl (decide_eq_true hc34) (fun _ _ ho => ok_move ho (.tmp rfl))) rfl (by decide) (by decide) ?_
        obtain ⟨p36, hp36, h⟩ := bindo h
        refine x_goE (e_call_g (dst := some 102) (t := 98) (ts := [101, 98]) rfl (by kernel_rfl) rfl rfl (decide_eq_true hc34) (.func _) (.cons (.tmp rfl) Evs.nil) (HInv.static sendq_Queue_Len.at_ sendq_Queue_Len.body (sendq_Queue_Len.snd  hp36))) rfl trivial ?_
        refine x_goP (f_op_g (dst := some 103) (t := 98) (ts := [100, 102, 98]) rfl (by intro _ _ h; cases h) (by kernel_rfl) rfl rfl (decide_eq_true hc34) (fun _ _ ho => ok_ibin ho (.tmp rfl) (.tmp rfl) rfl)) rfl (by decide) (by decide) ?_
        try dsimp only [HAct.put, List.set_cons_zero, List.set_cons_succ]
        refine x_goP (f_op (dst := some 104) (ts := [98, 103]) rfl (by intro _ _ h; cases h) (by kernel_rfl) (fun _ _ ho => ok_pick_tt ho (.tmp rfl) (decide_eq_true hc34) (.tmp rfl))) rfl (by decide) (by decide) ?_
        refine x_goP (f_op (dst := some 105) (ts := [104]) rfl (by intro _ _ h; cases h) (by kernel_rfl) (fun _ _ ho => ok_move ho (.tmp rfl))) rfl (by decide) (by decide) ?_
        rcases ifc h with ⟨hc37, h⟩ | ⟨hc37, h⟩
        · refine x_goP (f_op_g (dst := some 106) (t := 105) (ts := [5, 105]) rfl (by intro _ _ h; cases h) (by kernel_rfl) rfl rfl (decide_eq_true hc37) (fun _ _ ho => ok_move ho (.tmp rfl))) rfl (by decide) (by decide) ?_
          obtain ⟨p38, hp38, h⟩ := bindo h
          refine x_goE (e_call_g (dst := some 107) (t := 105) (ts := [106, 105]) rfl (by kernel_rfl) rfl rfl (decide_eq_true hc37) (.func _) (.cons (.tmp rfl) Evs.nil) (HInv.static sendq_Queue_Sent.at_ sendq_Queue_Sent.body (sendq_Queue_Sent.snd  hp38))) rfl trivial ?_
          try dsimp only [HAct.put, List.set_cons_zero, List.set_cons_succ]
          refine x_goP (f_op_g (dst := some 108) (t := 105) (ts := [7, 105]) rfl (by intro _ _ h; cases h) (by kernel_rfl) rfl rfl (decide_eq_true hc37) (fun _ _ ho => ok_move ho (.tmp rfl))) rfl (by decide) (by decide) ?_
          obtain ⟨p39, hp39, h⟩ := bindo h
          refine x_goE (e_call_g (dst := some 109) (t := 105) (ts := [108, 105]) rfl (by kernel_rfl) rfl rfl (decide_eq_true hc37) (.func _) (.cons (.tmp rfl) Evs.nil) (HInv.static sendq_Queue_Sent.at_ sendq_Queue_Sent.body (sendq_Queue_Sent.snd  hp39))) rfl trivial ?_
          refine x_goP (f_op_g (dst := some 110) (t := 105) (ts := [107, 109, 105]) rfl (by intro _ _ h; cases h) (by kernel_rfl) rfl rfl (decide_eq_true hc37) (fun _ _ ho => ok_ibin ho (.tmp rfl) (.tmp rfl) rfl)) rfl (by decide) (by decide) ?_
          refine x_goP (f_op (dst := some 111) (ts := [105, 110]) rfl (by intro _ _ h; cases h) (by kernel_rfl) (fun _ _ ho => ok_pick_tt ho (.tmp rfl) (decide_eq_true hc37) (.tmp rfl))) rfl (by decide) (by decide) ?_
          try dsimp only [HAct.put, List.set_cons_zero, List.set_cons_succ]
          refine x_goP (f_op (dst := some 112) (ts := [111]) rfl (by intro _ _ h; cases h) (by kernel_rfl) (fun _ _ ho => ok_move ho (.tmp rfl))) rfl (by decide) (by decide) ?_
          rcases ifc h with ⟨hc40, h⟩ | ⟨hc40, h⟩
          · refine x_goP (f_op_g (dst := some 113) (t := 112) (ts := [5, 112]) rfl (by intro _ _ h; cases h) (by kernel_rfl) rfl rfl (decide_eq_true hc40) (fun _ _ ho => ok_move ho (.tmp rfl))) rfl (by decide) (by decide) ?_
            obtain ⟨p41, hp41, h⟩ := bindo h
            refine x_goE (e_call_g (dst := some 114) (t := 112) (ts := [113, 112]) rfl (by kernel_rfl) rfl rfl (decide_eq_true hc40) (.func _) (.cons (.tmp rfl) (.cons (.int _ _) Evs.nil)) (HInv.static sendq_Queue_Drain.at_ sendq_Queue_Drain.body (sendq_Queue_Drain.snd  hp41))) rfl trivial ?_
            obtain ⟨p42, hp42, h⟩ := bindo h
            refine x_late (r_op_g (dst := some 115) (t := 112) (ts := [114, 112]) rfl (by intro _ _ h; cases h) (by kernel_rfl) rfl rfl (decide_eq_true hc40) (fun _ ho => ok_str_of_bytes (s := p41.1) ho tu31 tu5 tu9 (.tmp rfl) hp42)) rfl ⟨.inl (by kernel_rfl), .inl (by kernel_rfl), .inl (by kernel_rfl), .inl (by kernel_rfl), .inl (by kernel_rfl), .inl (by kernel_rfl), trivial⟩ ?_
            try dsimp only [HAct.put, List.set_cons_zero, List.set_cons_succ]
            refine x_goP (f_op_g (dst := some 116) (t := 112) (ts := [7, 112]) rfl (by intro _ _ h; cases h) (by kernel_rfl) rfl rfl (decide_eq_true hc40) (fun _ _ ho => ok_move ho (.tmp rfl))) rfl (by decide) (by decide) ?_
            obtain ⟨p43, hp43, h⟩ := bindo h
            obtain ⟨p44, hp44, h⟩ := bindo h
            obtain ⟨hg45, h⟩ := gd h
            refine x_goE (e_call_g (dst := some 117) (t := 112) (ts := [116, 112]) rfl (by kernel_rfl) rfl rfl (decide_eq_true hc40) (.func _) (.cons (.tmp rfl) (.cons (.int _ _) Evs.nil)) (HInv.static sendq_Queue_Drain.at_ sendq_Queue_Drain.body (sendq_Queue_Drain.snd  hp43))) rfl ⟨.inr (l_op_g (dst := some 115) (t := 112) (ts := [114, 112]) rfl (by intro _ _ h; cases h) (by kernel_rfl) rfl rfl (decide_eq_true hc40) (fun _ ho => ok_str_of_bytes (s := p41.1) ho tu31 tu5 tu9 (.tmp rfl) (hp44.trans (congrArg some hg45)))), trivial⟩ ?_
            obtain ⟨p46, hp46, h⟩ := bindo h
            refine x_goP (r_op_g (dst := some 118) (t := 112) (ts := [117, 112]) rfl (by intro _ _ h; cases h) (by kernel_rfl) rfl rfl (decide_eq_true hc40) (fun _ ho => ok_str_of_bytes (s := p43.1) ho tu31 tu5 tu9 (.tmp rfl) hp46)) rfl (by decide) (by decide) ?_
            refine x_goP (f_op_g (dst := some 119) (t := 112) (ts := [115, 118, 112]) rfl (by intro _ _ h; cases h) (by kernel_rfl) rfl rfl (decide_eq_true hc40) (fun _ _ ho => ok_sbin ho (.tmp rfl) (.tmp rfl) rfl)) rfl (by decide) (by decide) ?_
            try dsimp only [HAct.put, List.set_cons_zero, List.set_cons_succ]
            refine x_goP (f_op (dst := some 120) (ts := [112, 119]) rfl (by intro _ _ h; cases h) (by kernel_rfl) (fun _ _ ho => ok_pick_tt ho (.tmp rfl) (decide_eq_true hc40) (.tmp rfl))) rfl (by decide) (by decide) ?_
            refine x_goP (f_op (dst := some 4) (ts := [120]) rfl (by intro _ _ h; cases h) (by kernel_rfl) (fun _ _ ho => ok_assign ho (.tmp rfl))) rfl (by decide) (by decide) ?_
            refine x_rest rfl ?_
            refine hr_region_end ?_
            try dsimp only [HAct.put, List.set_cons_zero, List.set_cons_succ]
            cases h
            exact q_ret e74 at_.at_ rfl (res1 rfl rfl) ⟨rfl, rfl⟩
          · refine x_goP (f_skip (dst := some 113) (t := 112) (ts := [5, 112]) rfl (by kernel_rfl) rfl rfl (decide_eq_false hc40)) rfl (by decide) (by decide) ?_
            refine x_goE (e_skip (dst := some 114) (t := 112) (ts := [113, 112]) rfl (by kernel_rfl) rfl rfl (decide_eq_false hc40)) rfl trivial ?_
            refine x_late (r_skip (dst := some 115) (t := 112) (ts := [114, 112]) rfl (by kernel_rfl) rfl rfl (decide_eq_false hc40)) rfl ⟨.inl (by kernel_rfl), .inl (by kernel_rfl), .inl (by kernel_rfl), .inl (by kernel_rfl), .inl (by kernel_rfl), .inl (by kernel_rfl), trivial⟩ ?_
            try dsimp only [HAct.put, List.set_cons_zero, List.set_cons_succ]
            refine x_goP (f_skip (dst := some 116) (t := 112) (ts := [7, 112]) rfl (by kernel_rfl) rfl rfl (decide_eq_false hc40)) rfl (by decide) (by decide) ?_
            refine x_goE (e_skip (dst := some 117) (t := 112) (ts := [116, 112]) rfl (by kernel_rfl) rfl rfl (decide_eq_false hc40)) rfl ⟨.inr (l_skip (dst := some 115) (t := 112) (ts := [114, 112]) rfl (by kernel_rfl) rfl rfl (decide_eq_false hc40)), trivial⟩ ?_
            refine x_goP (r_skip (dst := some 118) (t := 112) (ts := [117, 112]) rfl (by kernel_rfl) rfl rfl (decide_eq_false hc40)) rfl (by decide) (by decide) ?_
            refine x_goP (f_skip (dst := some 119) (t := 112) (ts := [115, 118, 112]) rfl (by kernel_rfl) rfl rfl (decide_eq_false hc40)) rfl (by decide) (by decide) ?_
            try dsimp only [HAct.put, List.set_cons_zero, List.set_cons_succ]
            refine x_goP (f_op (dst := some 120) (ts := [112, 119]) rfl (by intro _ _ h; cases h) (by kernel_rfl) (fun _ _ ho => ok_pick_ff ho (.tmp rfl) (decide_eq_false hc40) (.bool _))) rfl (by decide) (by decide) ?_
            refine x_goP (f_op (dst := some 4) (ts := [120]) rfl (by intro _ _ h; cases h) (by kernel_rfl) (fun _ _ ho => ok_assign ho (.tmp rfl))) rfl (by decide) (by decide) ?_
            refine x_rest rfl ?_
            refine hr_region_end ?_
            try dsimp only [HAct.put, List.set_cons_zero, List.set_cons_succ]
            cases h
            exact q_ret e74 at_.at_ rfl (res1 rfl rfl) ⟨rfl, rfl⟩
        · refine x_goP (f_skip (dst := some 106) (t := 105) (ts := [5, 105]) rfl (by kernel_rfl) rfl rfl (decide_eq_false hc37)) rfl (by decide) (by decide) ?_
          refine x_goE (e_skip (dst := some 107) (t := 105) (ts := [106, 105]) rfl (by kernel_rfl) rfl rfl (decide_eq_false hc37)) rfl trivial ?_
          try dsimp only [HAct.put, List.set_cons_zero, List.set_cons_succ]
          refine x_goP (f_skip (dst := some 108) (t := 105) (ts := [7, 105]) rfl (by kernel_rfl) rfl rfl (decide_eq_false hc37)) rfl (by decide) (by decide) ?_
          refine x_goE (e_skip (dst := some 109) (t := 105) (ts := [108, 105]) rfl (by kernel_rfl) rfl rfl (decide_eq_false hc37)) rfl trivial ?_
          refine x_goP (f_skip (dst := some 110) (t := 105) (ts := [107, 109, 105]) rfl (by kernel_rfl) rfl rfl (decide_eq_false hc37)) rfl (by decide) (by decide) ?_
          refine x_goP (f_op (dst := some 111) (ts := [105, 110]) rfl (by intro _ _ h; cases h) (by kernel_rfl) (fun _ _ ho => ok_pick_ff ho (.tmp rfl) (decide_eq_false hc37) (.bool _))) rfl (by decide) (by decide) ?_
          try dsimp only [HAct.put, List.set_cons_zero, List.set_cons_succ]
          refine x_goP (f_op (dst := some 112) (ts := [111]) rfl (by intro _ _ h; cases h) (by kernel_rfl) (fun _ _ ho => ok_move ho (.tmp rfl))) rfl (by decide) (by decide) ?_
          refine x_goP (f_skip (dst := some 113) (t := 112) (ts := [5, 112]) rfl (by kernel_rfl) rfl rfl rfl) rfl (by decide) (by decide) ?_
          refine x_goE (e_skip (dst := some 114) (t := 112) (ts := [113, 112]) rfl (by kernel_rfl) rfl rfl rfl) rfl trivial ?_
          refine x_late (r_skip (dst := some 115) (t := 112) (ts := [114, 112]) rfl (by kernel_rfl) rfl rfl rfl) rfl ⟨.inl (by kernel_rfl), .inl (by kernel_rfl), .inl (by kernel_rfl), .inl (by kernel_rfl), .inl (by kernel_rfl), .inl (by kernel_rfl), trivial⟩ ?_
          try dsimp only [HAct.put, List.set_cons_zero, List.set_cons_succ]
          refine x_goP (f_skip (dst := some 116) (t := 112) (ts := [7, 112]) rfl (by kernel_rfl) rfl rfl rfl) rfl (by decide) (by decide) ?_
          refine x_goE (e_skip (dst := some 117) (t := 112) (ts := [116, 112]) rfl (by kernel_rfl) rfl rfl rfl) rfl ⟨.inr (l_skip (dst := some 115) (t := 112) (ts := [114, 112]) rfl (by kernel_rfl) rfl rfl rfl), trivial⟩ ?_
          refine x_goP (r_skip (dst := some 118) (t := 112) (ts := [117, 112]) rfl (by kernel_rfl) rfl rfl rfl) rfl (by decide) (by decide) ?_
          refine x_goP (f_skip (dst := some 119) (t := 112) (ts := [115, 118, 112]) rfl (by kernel_rfl) rfl rfl rfl) rfl (by decide) (by decide) ?_
          try dsimp only [HAct.put, List.set_cons_zero, List.set_cons_succ]
          refine x_goP (f_op (dst := some 120) (ts := [112, 119]) rfl (by intro _ _ h; cases h) (by kernel_rfl) (fun _ _ ho => ok_pick_ff ho (.tmp rfl) rfl (.bool _))) rfl (by decide) (by decide) ?_
          refine x_goP (f_op (dst := some 4) (ts := [120]) rfl (by intro _ _ h; cases h) (by kernel_rfl) (fun _ _ ho => ok_assign ho (.tmp rfl))) rfl (by decide) (by decide) ?_
          refine x_rest rfl ?_
          refine hr_region_end ?_
          try dsimp only [HAct.put, List.set_cons_zero, List.set_cons_succ]
          cases h
          exact q_ret e74 at_.at_ rfl (res1 rfl rfl) ⟨rfl, rfl⟩
      · refine x_goP (f_skip (dst := some 99) (t := 98) (ts := [5, 98]) rfl (by kernel_rfl) rfl rfl (decide_eq_false hc34)) rfl (by decide) (by decide) ?_
        try dsimp only [HAct.put, List.set_cons_zero, List.set_cons_succ]
        refine x_goE (e_skip (dst := some 100) (t := 98) (ts := [99, 98]) rfl (by kernel_rfl) rfl rfl (decide_eq_false hc34)) rfl trivial ?_
        refine x_goP (f_skip (dst := some 101) (t := 98) (ts := [7, 98]) rfl (by kernel_rfl) rfl rfl (decide_eq_false hc34)) rfl (by decide) (by decide) ?_
        refine x_goE (e_skip (dst := some 102) (t := 98) (ts := [101, 98]) rfl (by kernel_rfl) rfl rfl (decide_eq_false hc34)) rfl trivial ?_
        refine x_goP (f_skip (dst := some 103) (t := 98) (ts := [100, 102, 98]) rfl (by kernel_rfl) rfl rfl (decide_eq_false hc34)) rfl (by decide) (by decide) ?_
        try dsimp only [HAct.put, List.set_cons_zero, List.set_cons_succ]
        refine x_goP (f_op (dst := some 104) (ts := [98, 103]) rfl (by intro _ _ h; cases h) (by kernel_rfl) (fun _ _ ho => ok_pick_ff ho (.tmp rfl) (decide_eq_false hc34) (.bool _))) rfl (by decide) (by decide) ?_
        refine x_goP (f_op (dst := some 105) (ts := [104]) rfl (by intro _ _ h; cases h) (by kernel_rfl) (fun _ _ ho => ok_move ho (.tmp rfl))) rfl (by decide) (by decide) ?_
        refine x_goP (f_skip (dst := some 106) (t := 105) (ts := [5, 105]) rfl (by kernel_rfl) rfl rfl rfl) rfl (by decide) (by decide) ?_
        refine x_goE (e_skip (dst := some 107) (t := 105) (ts := [106, 105]) rfl (by kernel_rfl) rfl rfl rfl) rfl trivial ?_
        try dsimp only [HAct.put, List.set_cons_zero, List.set_cons_succ]
        refine x_goP (f_skip (dst := some 108) (t := 105) (ts := [7, 105]) rfl (by kernel_rfl) rfl rfl rfl) rfl (by decide) (by decide) ?_
        refine x_goE (e_skip (dst := some 109) (t := 105) (ts := [108, 105]) rfl (by kernel_rfl) rfl rfl rfl) rfl trivial ?_
        refine x_goP (f_skip (dst := some 110) (t := 105) (ts := [107, 109, 105]) rfl (by kernel_rfl) rfl rfl rfl) rfl (by decide) (by decide) ?_
        refine x_goP (f_op (dst := some 111) (ts := [105, 110]) rfl (by intro _ _ h; cases h) (by kernel_rfl) (fun _ _ ho => ok_pick_ff ho (.tmp rfl) rfl (.bool _))) rfl (by decide) (by decide) ?_
        try dsimp only [HAct.put, List.set_cons_zero, List.set_cons_succ]
        refine x_goP (f_op (dst := some 112) (ts := [111]) rfl (by intro _ _ h; cases h) (by kernel_rfl) (fun _ _ ho => ok_move ho (.tmp rfl))) rfl (by decide) (by decide) ?_
        refine x_goP (f_skip (dst := some 113) (t := 112) (ts := [5, 112]) rfl (by kernel_rfl) rfl rfl rfl) rfl (by decide) (by decide) ?_
        refine x_goE (e_skip (dst := some 114) (t := 112) (ts := [113, 112]) rfl (by kernel_rfl) rfl rfl rfl) rfl trivial ?_
        refine x_late (r_skip (dst := some 115) (t := 112) (ts := [114, 112]) rfl (by kernel_rfl) rfl rfl rfl) rfl ⟨.inl (by kernel_rfl), .inl (by kernel_rfl), .inl (by kernel_rfl), .inl (by kernel_rfl), .inl (by kernel_rfl), .inl (by kernel_rfl), trivial⟩ ?_
        try dsimp only [HAct.put, List.set_cons_zero, List.set_cons_succ]
        refine x_goP (f_skip (dst := some 116) (t := 112) (ts := [7, 112]) rfl (by kernel_rfl) rfl rfl rfl) rfl (by decide) (by decide) ?_
        refine x_goE (e_skip (dst := some 117) (t := 112) (ts := [116, 112]) rfl (by kernel_rfl) rfl rfl rfl) rfl ⟨.inr (l_skip (dst := some 115) (t := 112) (ts := [114, 112]) rfl (by kernel_rfl) rfl rfl rfl), trivial⟩ ?_
        refine x_goP (r_skip (dst := some 118) (t := 112) (ts := [117, 112]) rfl (by kernel_rfl) rfl rfl rfl) rfl (by decide) (by decide) ?_
        refine x_goP (f_skip (dst := some 119) (t := 112) (ts := [115, 118, 112]) rfl (by kernel_rfl) rfl rfl rfl) rfl (by decide) (by decide) ?_
        try dsimp only [HAct.put, List.set_cons_zero, List.set_cons_succ]
        refine x_goP (f_op (dst := some 120) (ts := [112, 119]) rfl (by intro _ _ h; cases h) (by kernel_rfl) (fun _ _ ho => ok_pick_ff ho (.tmp rfl) rfl (.bool _))) rfl (by decide) (by decide) ?_
        refine x_goP (f_op (dst := some 4) (ts := [120]) rfl (by intro _ _ h; cases h) (by kernel_rfl) (fun _ _ ho => ok_assign ho (.tmp rfl))) rfl (by decide) (by decide) ?_
        refine x_rest rfl ?_
        refine hr_region_end ?_
        try dsimp only [HAct.put, List.set_cons_zero, List.set_cons_succ]
        cases h
        exact q_ret e74 at_.at_ rfl (res1 rfl rfl) ⟨rfl, rfl⟩
def L2 (D : Dp) (H : Hd) (k : Nat) : Nat → Sl → Sl → (Option HA) → (Option HA) → Int → HS → Option ((Bool) × HS)
  | 0, _, _, _, _, _, _ => none
  | n + 1, y0, y1, y5, y7, y9, S =>
    (if y9 < (Sl.len y0 : Int) then
    (Option.bind (HS.idx S y0 y9 1) fun p10 =>
    (Option.bind (HS.ldS S p10) fun p11 =>
    (if (List.length p11 : Int) > 200 then
    J3 D H k (L2 D H k n) y0 y1 y5 y7 y9 true S else
    (Option.bind (HS.idx S y0 y9 1) fun p16 =>
    (Option.bind (HS.ldS S p16) fun p17 =>
    (Option.bind (sendq_Queue_Push.f k y5 p17 S) fun p18 =>
    (Option.bind (HS.idx p18.2 y0 y9 1) fun p19 =>
    (Option.bind (HS.idx S y0 y9 1) fun p20 =>
    (if p20 = p19 then
    (Option.bind (HS.ldS p18.2 p19) fun p22 =>
    (Option.bind (HS.ldS S p19) fun p23 =>
    (if p23 = p22 then
    (Option.bind (sendq_Queue_Push.f k y7 p22 p18.2) fun p25 =>
    J3 D H k (L2 D H k n) y0 y1 y5 y7 y9 (!(p18.1 == p25.1)) p25.2) else none))) else none))))))))) else
    L4 D H k k y1 y5 y7 0 ([] : List UInt8) 0 S)
theorem L2_snd {D : Dp} {H : Hd} {k : Nat} (hD : DSound Try.prog base W0 D) (hH : HSound Try.prog base W0 β0 H)  : ∀ {n : Nat} ⦃y0 : Sl⦄ ⦃y1 : Sl⦄ ⦃y5 : (Option HA)⦄ ⦃y7 : (Option HA)⦄ ⦃y9 : Int⦄ ⦃S : HS⦄ ⦃p : (Bool) × HS⦄ ⦃g2 g3 g4 g6 g8 g10 g11 g12 g13 g14 g15 g16 g17 g18 g19 g20 g21 g22 g23 g24 g25 g26 g27 g28 g29 g30 g31 g32 g33 g34 g35 g36 g37 g38 g39 g40 g41 g42 g43 g44 g45 g46 g47 g48 g49 g50 g51 g52 g53 g54 g55 g56 g57 g58 g59 g60 g61 g62 g63 g64 g65 g66 g67 g68 g69 g70 g71 g72 g73 g74 g75 g76 g77 g78 g79 g80 g81 g82 g83 g84 g85 g86 g87 g88 g89 g90 g91 g92 g93 g94 g95 g96 g97 g98 g99 g100 g101 g102 g103 g104 g105 g106 g107 g108 g109 g110 g111 g112 g113 g114 g115 g116 g117 g118 g119 g120 : HV⦄, L2 D H k n y0 y1 y5 y7 y9 S = some p → HRun Try.prog base W0 β0 4 none [.inLoop c35, .inBlock 0, .code c51] ⟨[(Sl.hv y0), (Sl.hv y1), g2, g3, g4, (.ptr y5), g6, (.ptr y7), g8, (.int .i64 y9), g10, g11, g12, g13, g14, g15, g16, g17, g18, g19, g20, g21, g22, g23, g24, g25, g26, g27, g28, g29, g30, g31, g32, g33, g34, g35, g36, g37, g38, g39, g40, g41, g42, g43, g44, g45, g46, g47, g48, g49, g50, g51, g52, g53, g54, g55, g56, g57, g58, g59, g60, g61, g62, g63, g64, g65, g66, g67, g68, g69, g70, g71, g72, g73, g74, g75, g76, g77, g78, g79, g80, g81, g82, g83, g84, g85, g86, g87, g88, g89, g90, g91, g92, g93, g94, g95, g96, g97, g98, g99, g100, g101, g102, g103, g104, g105, g106, g107, g108, g109, g110, g111, g112, g113, g114, g115, g116, g117, g118, g119, g120], []⟩ S (fun v S1 => v = (.bool p.1) ∧ S1 = p.2) := by
  intro n
  induction n with
  | zero => intro _ _ _ _ _ _ _ _ _ _ _ _ _ _ _ _ _ _ _ _ _ _ _ _ _ _ _ _ _ _ _ _ _ _ _ _ _ _ _ _ _ _ _ _ _ _ _ _ _ _ _ _ _ _ _ _ _ _ _ _ _ _ _ _ _ _ _ _ _ _ _ _ _ _ _ _ _ _ _ _ _ _ _ _ _ _ _ _ _ _ _ _ _ _ _ _ _ _ _ _ _ _ _ _ _ _ _ _ _ _ _ _ _ _ _ _ _ _ _ _ _ _ _ h; cases h
  | succ n ih =>
    intro y0 y1 y5 y7 y9 S p g2 g3 g4 g6 g8 g10 g11 g12 g13 g14 g15 g16 g17 g18 g19 g20 g21 g22 g23 g24 g25 g26 g27 g28 g29 g30 g31 g32 g33 g34 g35 g36 g37 g38 g39 g40 g41 g42 g43 g44 g45 g46 g47 g48 g49 g50 g51 g52 g53 g54 g55 g56 g57 g58 g59 g60 g61 g62 g63 g64 g65 g66 g67 g68 g69 g70 g71 g72 g73 g74 g75 g76 g77 g78 g79 g80 g81 g82 g83 g84 g85 g86 g87 g88 g89 g90 g91 g92 g93 g94 g95 g96 g97 g98 g99 g100 g101 g102 g103 g104 g105 g106 g107 g108 g109 g110 g111 g112 g113 g114 g115 g116 g117 g118 g119 g120 h
    simp only [L2] at h
    refine hr_inLoop ?_
    refine q_seq e35 ?_
    refine q_seq e36 ?_
    refine q_region e37 rfl ?_
    refine q_op (dst := some 38) rfl (fun _ ho => ok_move ho (.tmp rfl)) ?_
    refine q_op (dst := some 39) rfl (fun _ ho => ok_move ho (.tmp rfl)) ?_
    refine q_op (dst := some 40) rfl (fun _ ho => ok_len_sl (q := Sl.a y0) (n := Sl.len y0) (z := Sl.cap y0) ho rfl tu36 (.tmp rfl)) ?_
    refine q_op (dst := some 41) rfl (fun _ ho => ok_ibin ho (.tmp rfl) (.tmp rfl) rfl) ?_
    refine hr_region_end ?_
    try dsimp only [HAct.put, List.set_cons_zero, List.set_cons_succ]
    rcases ifc h with ⟨hc9, h⟩ | ⟨hc9, h⟩
    · refine q_cond_t e38 (.tmp rfl) (decide_eq_true hc9) ?_
      refine q_skipc e39 ?_
      refine q_seq e41 ?_
      refine q_block e42 ?_
      refine q_seq e43 ?_
      refine x_start (cls := [0, 0, 1, 1, 0, 0, 0, 0, 0, 0, 1, 1, 2, 0, 0, 0, 3, 3, 2, 0, 0]) (rk := [0, 1, 2, 3, 4, 5, 6, 7, 8, 9, 10, 11, 12, 13, 14, 15, 16, 17, 18, 19, 20]) e44 (by kernel_rfl) ?_
      refine x_goP (f_op (dst := some 44) (ts := [0]) rfl (by intro _ _ h; cases h) (by kernel_rfl) (fun _ _ ho => ok_move ho (.tmp rfl))) rfl (by decide) (by decide) ?_
      refine x_goP (f_op (dst := some 45) (ts := [9]) rfl (by intro _ _ h; cases h) (by kernel_rfl) (fun _ _ ho => ok_move ho (.tmp rfl))) rfl (by decide) (by decide) ?_
      obtain ⟨p10, hp10, h⟩ := bindo h
      refine x_goP (r_op (dst := some 46) (ts := [44, 45]) rfl (by intro _ _ h; cases h) (by kernel_rfl) (fun _ ho => ok_indexAddr (s := y0) ho tu36 sz9 (.tmp rfl) (.tmp rfl) hp10)) rfl (by decide) (by decide) ?_
      obtain ⟨p11, hp11, h⟩ := bindo h
      refine x_goP (r_op (dst := some 47) (ts := [46]) rfl (by intro _ _ h; cases h) (by kernel_rfl) (fun _ ho => ok_load_s ho sc9 (.tmp rfl) rfl (ldS_out hp11))) rfl (by decide) (by decide) ?_
      try dsimp only [HAct.put, List.set_cons_zero, List.set_cons_succ]
      refine x_goP (f_op (dst := some 48) (ts := [47]) rfl (by intro _ _ h; cases h) (by kernel_rfl) (fun _ _ ho => ok_len_str ho rfl tu9 (.tmp rfl))) rfl (by decide) (by decide) ?_
      refine x_goP (f_op (dst := some 49) (ts := [48]) rfl (by intro _ _ h; cases h) (by kernel_rfl) (fun _ _ ho => ok_ibin ho (.tmp rfl) (.int _ _) rfl)) rfl (by decide) (by decide) ?_
      refine x_goP (f_op (dst := some 50) (ts := [49]) rfl (by intro _ _ h; cases h) (by kernel_rfl) (fun _ _ ho => ok_move ho (.tmp rfl))) rfl (by decide) (by decide) ?_
      rcases ifc h with ⟨hc12, h⟩ | ⟨hc12, h⟩
      · refine x_goP (f_skip (dst := some 51) (t := 50) (ts := [5, 50]) rfl (by kernel_rfl) rfl rfl (decide_eq_true hc12)) rfl (by decide) (by decide) ?_
        try dsimp only [HAct.put, List.set_cons_zero, List.set_cons_succ]
        refine x_goP (f_skip (dst := some 52) (t := 50) (ts := [0, 50]) rfl (by kernel_rfl) rfl rfl (decide_eq_true hc12)) rfl (by decide) (by decide) ?_
        refine x_goP (f_skip (dst := some 53) (t := 50) (ts := [9, 50]) rfl (by kernel_rfl) rfl rfl (decide_eq_true hc12)) rfl (by decide) (by decide) ?_
        refine x_goP (r_skip (dst := some 54) (t := 50) (ts := [52, 53, 50]) rfl (by kernel_rfl) rfl rfl (decide_eq_true hc12)) rfl (by decide) (by decide) ?_
        refine x_goP (r_skip (dst := some 55) (t := 50) (ts := [54, 50]) rfl (by kernel_rfl) rfl rfl (decide_eq_true hc12)) rfl (by decide) (by decide) ?_
        try dsimp only [HAct.put, List.set_cons_zero, List.set_cons_succ]
        refine x_goE (e_skip (dst := some 56) (t := 50) (ts := [51, 55, 50]) rfl (by kernel_rfl) rfl rfl (decide_eq_true hc12)) rfl trivial ?_
        refine x_goP (f_skip (dst := some 57) (t := 50) (ts := [7, 50]) rfl (by kernel_rfl) rfl rfl (decide_eq_true hc12)) rfl (by decide) (by decide) ?_
        refine x_goP (f_skip (dst := some 58) (t := 50) (ts := [0, 50]) rfl (by kernel_rfl) rfl rfl (decide_eq_true hc12)) rfl (by decide) (by decide) ?_
        refine x_goP (f_skip (dst := some 59) (t := 50) (ts := [9, 50]) rfl (by kernel_rfl) rfl rfl (decide_eq_true hc12)) rfl (by decide) (by decide) ?_
        try dsimp only [HAct.put, List.set_cons_zero, List.set_cons_succ]
        refine x_late (r_skip (dst := some 60) (t := 50) (ts := [58, 59, 50]) rfl (by kernel_rfl) rfl rfl (decide_eq_true hc12)) rfl ⟨.inr (l_skip (dst := some 60) (t := 50) (ts := [58, 59, 50]) rfl (by kernel_rfl) rfl rfl (decide_eq_true hc12)), trivial⟩ ?_
        refine x_late (r_skip (dst := some 61) (t := 50) (ts := [60, 50]) rfl (by kernel_rfl) rfl rfl (decide_eq_true hc12)) rfl ⟨.inr (l_skip (dst := some 61) (t := 50) (ts := [60, 50]) rfl (by kernel_rfl) rfl rfl (decide_eq_true hc12)), trivial⟩ ?_
        refine x_goE (e_skip (dst := some 62) (t := 50) (ts := [57, 61, 50]) rfl (by kernel_rfl) rfl rfl (decide_eq_true hc12)) rfl ⟨.inl (by kernel_rfl), .inl (by kernel_rfl), trivial⟩ ?_
        refine x_goP (f_skip (dst := some 63) (t := 50) (ts := [56, 62, 50]) rfl (by kernel_rfl) rfl rfl (decide_eq_true hc12)) rfl (by decide) (by decide) ?_
        try dsimp only [HAct.put, List.set_cons_zero, List.set_cons_succ]
        refine x_goP (f_op (dst := some 64) (ts := [50, 63]) rfl (by intro _ _ h; cases h) (by kernel_rfl) (fun _ _ ho => ok_pick_tt ho (.tmp rfl) (decide_eq_true hc12) (.bool _))) rfl (by decide) (by decide) ?_
        refine x_rest rfl ?_
        refine hr_region_end ?_
        try dsimp only [HAct.put, List.set_cons_zero, List.set_cons_succ]
        try dsimp only [HAct.put, List.set_cons_zero, List.set_cons_succ]
        exact J3_snd hD hH ih h
      · refine x_goP (f_op_g (dst := some 51) (t := 50) (ts := [5, 50]) rfl (by intro _ _ h; cases h) (by kernel_rfl) rfl rfl (decide_eq_false hc12) (fun _ _ ho => ok_move ho (.tmp rfl))) rfl (by decide) (by decide) ?_
        try dsimp only [HAct.put, List.set_cons_zero, List.set_cons_succ]
        refine x_goP (f_op_g (dst := some 52) (t := 50) (ts := [0, 50]) rfl (by intro _ _ h; cases h) (by kernel_rfl) rfl rfl (decide_eq_false hc12) (fun _ _ ho => ok_move ho (.tmp rfl))) rfl (by decide) (by decide) ?_
        refine x_goP (f_op_g (dst := some 53) (t := 50) (ts := [9, 50]) rfl (by intro _ _ h; cases h) (by kernel_rfl) rfl rfl (decide_eq_false hc12) (fun _ _ ho => ok_move ho (.tmp rfl))) rfl (by decide) (by decide) ?_
        obtain ⟨p16, hp16, h⟩ := bindo h
        refine x_goP (r_op_g (dst := some 54) (t := 50) (ts := [52, 53, 50]) rfl (by intro _ _ h; cases h) (by kernel_rfl) rfl rfl (decide_eq_false hc12) (fun _ ho => ok_indexAddr (s := y0) ho tu36 sz9 (.tmp rfl) (.tmp rfl) hp16)) rfl (by decide) (by decide) ?_
        obtain ⟨p17, hp17, h⟩ := bindo h
        refine x_goP (r_op_g (dst := some 55) (t := 50) (ts := [54, 50]) rfl (by intro _ _ h; cases h) (by kernel_rfl) rfl rfl (decide_eq_false hc12) (fun _ ho => ok_load_s ho sc9 (.tmp rfl) rfl (ldS_out hp17))) rfl (by decide) (by decide) ?_
        try dsimp only [HAct.put, List.set_cons_zero, List.set_cons_succ]
        obtain ⟨p18, hp18, h⟩ := bindo h
        refine x_goE (e_call_g (dst := some 56) (t := 50) (ts := [51, 55, 50]) rfl (by kernel_rfl) rfl rfl (decide_eq_false hc12) (.func _) (.cons (.tmp rfl) (.cons (.tmp rfl) Evs.nil)) (HInv.static sendq_Queue_Push.at_ sendq_Queue_Push.body (sendq_Queue_Push.snd  hp18))) rfl trivial ?_
        refine x_goP (f_op_g (dst := some 57) (t := 50) (ts := [7, 50]) rfl (by intro _ _ h; cases h) (by kernel_rfl) rfl rfl (decide_eq_false hc12) (fun _ _ ho => ok_move ho (.tmp rfl))) rfl (by decide) (by decide) ?_
        refine x_goP (f_op_g (dst := some 58) (t := 50) (ts := [0, 50]) rfl (by intro _ _ h; cases h) (by kernel_rfl) rfl rfl (decide_eq_false hc12) (fun _ _ ho => ok_move ho (.tmp rfl))) rfl (by decide) (by decide) ?_
        refine x_goP (f_op_g (dst := some 59) (t := 50) (ts := [9, 50]) rfl (by intro _ _ h; cases h) (by kernel_rfl) rfl rfl (decide_eq_false hc12) (fun _ _ ho => ok_move ho (.tmp rfl))) rfl (by decide) (by decide) ?_
        try dsimp only [HAct.put, List.set_cons_zero, List.set_cons_succ]
        obtain ⟨p19, hp19, h⟩ := bindo h
        obtain ⟨p20, hp20, h⟩ := bindo h
        obtain ⟨hg21, h⟩ := gd h
        refine x_late (r_op_g (dst := some 60) (t := 50) (ts := [58, 59, 50]) rfl (by intro _ _ h; cases h) (by kernel_rfl) rfl rfl (decide_eq_false hc12) (fun _ ho => ok_indexAddr (s := y0) ho tu36 sz9 (.tmp rfl) (.tmp rfl) hp19)) rfl ⟨.inr (l_op_g (dst := some 60) (t := 50) (ts := [58, 59, 50]) rfl (by intro _ _ h; cases h) (by kernel_rfl) rfl rfl (decide_eq_false hc12) (fun _ ho => ok_indexAddr (s := y0) ho tu36 sz9 (.tmp rfl) (.tmp rfl) (hp20.trans (congrArg some hg21)))), trivial⟩ ?_
        obtain ⟨p22, hp22, h⟩ := bindo h
        obtain ⟨p23, hp23, h⟩ := bindo h
        obtain ⟨hg24, h⟩ := gd h
        refine x_late (r_op_g (dst := some 61) (t := 50) (ts := [60, 50]) rfl (by intro _ _ h; cases h) (by kernel_rfl) rfl rfl (decide_eq_false hc12) (fun _ ho => ok_load_s ho sc9 (.tmp rfl) rfl (ldS_out hp22))) rfl ⟨.inr (l_op_g (dst := some 61) (t := 50) (ts := [60, 50]) rfl (by intro _ _ h; cases h) (by kernel_rfl) rfl rfl (decide_eq_false hc12) (fun _ ho => ok_load_s ho sc9 (.tmp rfl) rfl (ldS_out (hp23.trans (congrArg some hg24))))), trivial⟩ ?_
        obtain ⟨p25, hp25, h⟩ := bindo h
        refine x_goE (e_call_g (dst := some 62) (t := 50) (ts := [57, 61, 50]) rfl (by kernel_rfl) rfl rfl (decide_eq_false hc12) (.func _) (.cons (.tmp rfl) (.cons (.tmp rfl) Evs.nil)) (HInv.static sendq_Queue_Push.at_ sendq_Queue_Push.body (sendq_Queue_Push.snd  hp25))) rfl ⟨.inl (by kernel_rfl), .inl (by kernel_rfl), trivial⟩ ?_
        refine x_goP (f_op_g (dst := some 63) (t := 50) (ts := [56, 62, 50]) rfl (by intro _ _ h; cases h) (by kernel_rfl) rfl rfl (decide_eq_false hc12) (fun _ _ ho => ok_beq ho tu4 (.inr ⟨rfl, rfl⟩) (.tmp rfl) (.tmp rfl))) rfl (by decide) (by decide) ?_
        try dsimp only [HAct.put, List.set_cons_zero, List.set_cons_succ]
        refine x_goP (f_op (dst := some 64) (ts := [50, 63]) rfl (by intro _ _ h; cases h) (by kernel_rfl) (fun _ _ ho => ok_pick_ff ho (.tmp rfl) (decide_eq_false hc12) (.tmp rfl))) rfl (by decide) (by decide) ?_
        refine x_rest rfl ?_
        refine hr_region_end ?_
        try dsimp only [HAct.put, List.set_cons_zero, List.set_cons_succ]
        try dsimp only [HAct.put, List.set_cons_zero, List.set_cons_succ]
        exact J3_snd hD hH ih h
    · refine q_cond_f e38 (.tmp rfl) (decide_eq_false hc9) ?_
      refine q_exit e40 rfl ?_
      refine q_seq e51 ?_
      refine q_region e52 rfl ?_
      refine q_op (dst := some 10) rfl (fun _ ho => ok_assign ho (.int _ _)) ?_
      refine q_op (dst := some 11) rfl (fun _ ho => ok_assign ho (.str _)) ?_
      refine hr_region_end ?_
      try dsimp only [HAct.put, List.set_cons_zero, List.set_cons_succ]
      refine q_seq e53 ?_
      refine q_seq e54 ?_
      refine q_region e55 rfl ?_
      refine q_op (dst := some 12) rfl (fun _ ho => ok_assign ho (.int _ _)) ?_
      refine hr_region_end ?_
      try dsimp only [HAct.put, List.set_cons_zero, List.set_cons_succ]
      refine q_block e56 ?_
      refine q_loop e57 ?_
      try dsimp only [HAct.put, List.set_cons_zero, List.set_cons_succ]
      exact L4_snd hD hH h
def J1 (D : Dp) (H : Hd) (k : Nat) (y0 : Sl) (y1 : Sl) (y5 : (Option HA)) (y7 : (Option HA)) (y37 : Bool) (S : HS) : Option ((Bool) × HS) :=
  (if y37 = true then
  some (false, S) else
  L2 D H k k y0 y1 y5 y7 0 S)
theorem J1_snd {D : Dp} {H : Hd} {k : Nat} (hD : DSound Try.prog base W0 D) (hH : HSound Try.prog base W0 β0 H)  {y0 : Sl} {y1 : Sl} {y5 : (Option HA)} {y7 : (Option HA)} {y37 : Bool} {S : HS} {p : (Bool) × HS} {g2 g3 g4 g6 g8 g9 g10 g11 g12 g13 g14 g15 g16 g17 g18 g19 g20 g21 g22 g23 g24 g25 g26 g27 g28 g29 g30 g31 g32 g33 g34 g35 g36 g38 g39 g40 g41 g42 g43 g44 g45 g46 g47 g48 g49 g50 g51 g52 g53 g54 g55 g56 g57 g58 g59 g60 g61 g62 g63 g64 g65 g66 g67 g68 g69 g70 g71 g72 g73 g74 g75 g76 g77 g78 g79 g80 g81 g82 g83 g84 g85 g86 g87 g88 g89 g90 g91 g92 g93 g94 g95 g96 g97 g98 g99 g100 g101 g102 g103 g104 g105 g106 g107 g108 g109 g110 g111 g112 g113 g114 g115 g116 g117 g118 g119 g120 : HV} (h : J1 D H k y0 y1 y5 y7 y37 S = some p) : HRun Try.prog base W0 β0 4 none [.code c25, .code c30] ⟨[(Sl.hv y0), (Sl.hv y1), g2, g3, g4, (.ptr y5), g6, (.ptr y7), g8, g9, g10, g11, g12, g13, g14, g15, g16, g17, g18, g19, g20, g21, g22, g23, g24, g25, g26, g27, g28, g29, g30, g31, g32, g33, g34, g35, g36, (.bool y37), g38, g39, g40, g41, g42, g43, g44, g45, g46, g47, g48, g49, g50, g51, g52, g53, g54, g55, g56, g57, g58, g59, g60, g61, g62, g63, g64, g65, g66, g67, g68, g69, g70, g71, g72, g73, g74, g75, g76, g77, g78, g79, g80, g81, g82, g83, g84, g85, g86, g87, g88, g89, g90, g91, g92, g93, g94, g95, g96, g97, g98, g99, g100, g101, g102, g103, g104, g105, g106, g107, g108, g109, g110, g111, g112, g113, g114, g115, g116, g117, g118, g119, g120], []⟩ S (fun v S1 => v = (.bool p.1) ∧ S1 = p.2) := by
  unfold J1 at h
  rcases ifc h with ⟨hc8, h⟩ | ⟨hc8, h⟩
  · refine q_cond_t e25 (.tmp rfl) hc8 ?_
    refine q_seq e26 ?_
    refine q_region e27 rfl ?_
    refine q_op (dst := some 4) rfl (fun _ ho => ok_assign ho (.bool _)) ?_
    refine hr_region_end ?_
    try dsimp only [HAct.put, List.set_cons_zero, List.set_cons_succ]
    cases h
    exact q_ret e28 at_.at_ rfl (res1 rfl rfl) ⟨rfl, rfl⟩
  · refine q_cond_f e25 (.tmp rfl) (bfalse hc8) ?_
    refine q_skipc e29 ?_
    refine q_seq e30 ?_
    refine q_seq e31 ?_
    refine q_region e32 rfl ?_
    refine q_op (dst := some 9) rfl (fun _ ho => ok_assign ho (.int _ _)) ?_
    refine hr_region_end ?_
    try dsimp only [HAct.put, List.set_cons_zero, List.set_cons_succ]
    refine q_block e33 ?_
    refine q_loop e34 ?_
    try dsimp only [HAct.put, List.set_cons_zero, List.set_cons_succ]
    exact L2_snd hD hH h
def J0 (D : Dp) (H : Hd) (k : Nat) (y0 : Sl) (y1 : Sl) (y23 : Bool) (S : HS) : Option ((Bool) × HS) :=
  (if y23 = true then
  some (true, S) else
  (Option.bind (sendq_New.f 65536 S) fun p5 =>
  (Option.bind (sendq_New.f 65536 p5.2) fun p6 =>
  (if (!decide (p5.1.2 = 0)) = true then
  J1 D H k y0 y1 p5.1.1 p6.1.1 true p6.2 else
  J1 D H k y0 y1 p5.1.1 p6.1.1 (!decide (p6.1.2 = 0)) p6.2))))
theorem J0_snd {D : Dp} {H : Hd} {k : Nat} (hD : DSound Try.prog base W0 D) (hH : HSound Try.prog base W0 β0 H)  {y0 : Sl} {y1 : Sl} {y23 : Bool} {S : HS} {p : (Bool) × HS} {g2 g3 g4 g5 g6 g7 g8 g9 g10 g11 g12 g13 g14 g15 g16 g17 g18 g19 g20 g21 g22 g24 g25 g26 g27 g28 g29 g30 g31 g32 g33 g34 g35 g36 g37 g38 g39 g40 g41 g42 g43 g44 g45 g46 g47 g48 g49 g50 g51 g52 g53 g54 g55 g56 g57 g58 g59 g60 g61 g62 g63 g64 g65 g66 g67 g68 g69 g70 g71 g72 g73 g74 g75 g76 g77 g78 g79 g80 g81 g82 g83 g84 g85 g86 g87 g88 g89 g90 g91 g92 g93 g94 g95 g96 g97 g98 g99 g100 g101 g102 g103 g104 g105 g106 g107 g108 g109 g110 g111 g112 g113 g114 g115 g116 g117 g118 g119 g120 : HV} (h : J0 D H k y0 y1 y23 S = some p) : HRun Try.prog base W0 β0 4 none [.code c13, .code c18] ⟨[(Sl.hv y0), (Sl.hv y1), g2, g3, g4, g5, g6, g7, g8, g9, g10, g11, g12, g13, g14, g15, g16, g17, g18, g19, g20, g21, g22, (.bool y23), g24, g25, g26, g27, g28, g29, g30, g31, g32, g33, g34, g35, g36, g37, g38, g39, g40, g41, g42, g43, g44, g45, g46, g47, g48, g49, g50, g51, g52, g53, g54, g55, g56, g57, g58, g59, g60, g61, g62, g63, g64, g65, g66, g67, g68, g69, g70, g71, g72, g73, g74, g75, g76, g77, g78, g79, g80, g81, g82, g83, g84, g85, g86, g87, g88, g89, g90, g91, g92, g93, g94, g95, g96, g97, g98, g99, g100, g101, g102, g103, g104, g105, g106, g107, g108, g109, g110, g111, g112, g113, g114, g115, g116, g117, g118, g119, g120], []⟩ S (fun v S1 => v = (.bool p.1) ∧ S1 = p.2) := by
  unfold J0 at h
  rcases ifc h with ⟨hc4, h⟩ | ⟨hc4, h⟩
  · refine q_cond_t e13 (.tmp rfl) hc4 ?_
    refine q_seq e14 ?_
    refine q_region e15 rfl ?_
    refine q_op (dst := some 4) rfl (fun _ ho => ok_assign ho (.bool _)) ?_
    refine hr_region_end ?_
    try dsimp only [HAct.put, List.set_cons_zero, List.set_cons_succ]
    cases h
    exact q_ret e16 at_.at_ rfl (res1 rfl rfl) ⟨rfl, rfl⟩
  · refine q_cond_f e13 (.tmp rfl) (bfalse hc4) ?_
    refine q_skipc e17 ?_
    refine q_seq e18 ?_
    refine q_region e19 rfl ?_
    obtain ⟨p5, hp5, h⟩ := bindo h
    refine q_call (dst := some 25) rfl (.func _) (.cons (.int _ _) Evs.nil) (HInv.static sendq_New.at_ sendq_New.body (sendq_New.snd  hp5)) ?_
    rintro _ _ ⟨rfl, rfl⟩
    refine q_op (dst := some 24) rfl (fun _ ho => ok_move ho (.tmp rfl)) ?_
    refine q_op (dst := some 26) rfl (fun _ ho => ok_extract ho (.tmp rfl) rfl) ?_
    refine q_op (dst := some 27) rfl (fun _ ho => ok_extract ho (.tmp rfl) rfl) ?_
    try dsimp only [HAct.put, List.set_cons_zero, List.set_cons_succ]
    refine q_op (dst := some 5) rfl (fun _ ho => ok_assign ho (.tmp rfl)) ?_
    refine q_op (dst := some 6) rfl (fun _ ho => ok_assign ho (.tmp rfl)) ?_
    refine hr_region_end ?_
    try dsimp only [HAct.put, List.set_cons_zero, List.set_cons_succ]
    refine q_seq e20 ?_
    refine q_region e21 rfl ?_
    obtain ⟨p6, hp6, h⟩ := bindo h
    refine q_call (dst := some 29) rfl (.func _) (.cons (.int _ _) Evs.nil) (HInv.static sendq_New.at_ sendq_New.body (sendq_New.snd  hp6)) ?_
    rintro _ _ ⟨rfl, rfl⟩
    refine q_op (dst := some 28) rfl (fun _ ho => ok_move ho (.tmp rfl)) ?_
    refine q_op (dst := some 30) rfl (fun _ ho => ok_extract ho (.tmp rfl) rfl) ?_
    refine q_op (dst := some 31) rfl (fun _ ho => ok_extract ho (.tmp rfl) rfl) ?_
    try dsimp only [HAct.put, List.set_cons_zero, List.set_cons_succ]
    refine q_op (dst := some 7) rfl (fun _ ho => ok_assign ho (.tmp rfl)) ?_
    refine q_op (dst := some 8) rfl (fun _ ho => ok_assign ho (.tmp rfl)) ?_
    refine hr_region_end ?_
    try dsimp only [HAct.put, List.set_cons_zero, List.set_cons_succ]
    refine q_seq e22 ?_
    refine q_seq e23 ?_
    refine q_region e24 rfl ?_
    refine q_op (dst := some 32) rfl (fun _ ho => ok_move ho (.tmp rfl)) ?_
    refine q_op (dst := some 33) rfl (fun _ ho => ok_ibin ho (.tmp rfl) (.int _ _) rfl) ?_
    refine q_op (dst := some 34) rfl (fun _ ho => ok_move ho (.tmp rfl)) ?_
    rcases ifc h with ⟨hc7, h⟩ | ⟨hc7, h⟩
    · refine q_skip (dst := some 35) (t := 34) rfl rfl rfl hc7 ?_
      try dsimp only [HAct.put, List.set_cons_zero, List.set_cons_succ]
      refine q_skip (dst := some 36) (t := 34) rfl rfl rfl hc7 ?_
      refine q_op (dst := some 37) rfl (fun _ ho => ok_pick_tt ho (.tmp rfl) hc7 (.bool _)) ?_
      refine hr_region_end ?_
      try dsimp only [HAct.put, List.set_cons_zero, List.set_cons_succ]
      try dsimp only [HAct.put, List.set_cons_zero, List.set_cons_succ]
      exact J1_snd hD hH h
    · refine q_op_g (t := 34) (dst := some 35) rfl rfl rfl (bfalse hc7) (fun _ ho => ok_move ho (.tmp rfl)) ?_
      try dsimp only [HAct.put, List.set_cons_zero, List.set_cons_succ]
      refine q_op_g (t := 34) (dst := some 36) rfl rfl rfl (bfalse hc7) (fun _ ho => ok_ibin ho (.tmp rfl) (.int _ _) rfl) ?_
      refine q_op (dst := some 37) rfl (fun _ ho => ok_pick_ff ho (.tmp rfl) (bfalse hc7) (.tmp rfl)) ?_
      refine hr_region_end ?_
      try dsimp only [HAct.put, List.set_cons_zero, List.set_cons_succ]
      try dsimp only [HAct.put, List.set_cons_zero, List.set_cons_succ]
      exact J1_snd hD hH h
def f (D : Dp) (H : Hd) (k : Nat) (x0 : Sl) (x1 : Sl) (S : HS) : Option ((Bool) × HS) :=
  (Option.bind (rollcalllaw08_awake.f D H k S) fun p1 =>
  (if (!p1.1) = true then
  some (false, p1.2) else
  (if (Sl.len x0 : Int) > 30 then
  J0 D H k x0 x1 true p1.2 else
  J0 D H k x0 x1 (decide ((Sl.len x1 : Int) > 30)) p1.2)))
theorem snd {D : Dp} {H : Hd} {k : Nat} {x0 : Sl} {x1 : Sl} {S : HS} (hD : DSound Try.prog base W0 D) (hH : HSound Try.prog base W0 β0 H)  {p : (Bool) × HS} (h : f D H k x0 x1 S = some p) : HCall Try.prog base W0 β0 4 [(Sl.hv x0), (Sl.hv x1)] S (fun v S1 => v = (.bool p.1) ∧ S1 = p.2) := by
  unfold f at h
  refine HCall.of_run at_.at_ body ?_
  show HRun Try.prog base W0 β0 4 none [.code c0] ⟨[(Sl.hv x0), (Sl.hv x1), .tup [], .tup [], .tup [], .tup [], .tup [], .tup [], .tup [], .tup [], .tup [], .tup [], .tup [], .tup [], .tup [], .tup [], .tup [], .tup [], .tup [], .tup [], .tup [], .tup [], .tup [], .tup [], .tup [], .tup [], .tup [], .tup [], .tup [], .tup [], .tup [], .tup [], .tup [], .tup [], .tup [], .tup [], .tup [], .tup [], .tup [], .tup [], .tup [], .tup [], .tup [], .tup [], .tup [], .tup [], .tup [], .tup [], .tup [], .tup [], .tup [], .tup [], .tup [], .tup [], .tup [], .tup [], .tup [], .tup [], .tup [], .tup [], .tup [], .tup [], .tup [], .tup [], .tup [], .tup [], .tup [], .tup [], .tup [], .tup [], .tup [], .tup [], .tup [], .tup [], .tup [], .tup [], .tup [], .tup [], .tup [], .tup [], .tup [], .tup [], .tup [], .tup [], .tup [], .tup [], .tup [], .tup [], .tup [], .tup [], .tup [], .tup [], .tup [], .tup [], .tup [], .tup [], .tup [], .tup [], .tup [], .tup [], .tup [], .tup [], .tup [], .tup [], .tup [], .tup [], .tup [], .tup [], .tup [], .tup [], .tup [], .tup [], .tup [], .tup [], .tup [], .tup [], .tup [], .tup [], .tup [], .tup [], .tup []], []⟩ S _
  refine q_seq e0 ?_
  refine q_region e1 rfl ?_
  refine q_op (dst := some 4) rfl (fun _ ho => ok_assign ho (.bool _)) ?_
  refine hr_region_end ?_
  try dsimp only [HAct.put, List.set_cons_zero, List.set_cons_succ]
  refine q_seq e2 ?_
  refine q_seq e3 ?_
  refine q_region e4 rfl ?_
  obtain ⟨p1, hp1, h⟩ := bindo h
  refine q_call (dst := some 14) rfl (.func _) Evs.nil (HInv.static rollcalllaw08_awake.at_ rollcalllaw08_awake.body (rollcalllaw08_awake.snd hD hH hp1)) ?_
  rintro _ _ ⟨rfl, rfl⟩
  refine q_op (dst := some 15) rfl (fun _ ho => ok_not ho (.tmp rfl)) ?_
  refine hr_region_end ?_
  try dsimp only [HAct.put, List.set_cons_zero, List.set_cons_succ]
  rcases ifc h with ⟨hc2, h⟩ | ⟨hc2, h⟩
  · refine q_cond_t e5 (.tmp rfl) hc2 ?_
    refine q_seq e6 ?_
    refine q_region e7 rfl ?_
    refine q_op (dst := some 4) rfl (fun _ ho => ok_assign ho (.bool _)) ?_
    refine hr_region_end ?_
    try dsimp only [HAct.put, List.set_cons_zero, List.set_cons_succ]
    cases h
    exact q_ret e8 at_.at_ rfl (res1 rfl rfl) ⟨rfl, rfl⟩
  · refine q_cond_f e5 (.tmp rfl) (bfalse hc2) ?_
    refine q_skipc e9 ?_
    refine q_seq e10 ?_
    refine q_seq e11 ?_
    refine q_region e12 rfl ?_
    refine q_op (dst := some 16) rfl (fun _ ho => ok_move ho (.tmp rfl)) ?_
    refine q_op (dst := some 17) rfl (fun _ ho => ok_len_sl (q := Sl.a x0) (n := Sl.len x0) (z := Sl.cap x0) ho rfl tu36 (.tmp rfl)) ?_
    refine q_op (dst := some 18) rfl (fun _ ho => ok_ibin ho (.tmp rfl) (.int _ _) rfl) ?_
    refine q_op (dst := some 19) rfl (fun _ ho => ok_move ho (.tmp rfl)) ?_
    try dsimp only [HAct.put, List.set_cons_zero, List.set_cons_succ]
    rcases ifc h with ⟨hc3, h⟩ | ⟨hc3, h⟩
    · refine q_skip (dst := some 20) (t := 19) rfl rfl rfl (decide_eq_true hc3) ?_
      refine q_skip (dst := some 21) (t := 19) rfl rfl rfl (decide_eq_true hc3) ?_
      refine q_skip (dst := some 22) (t := 19) rfl rfl rfl (decide_eq_true hc3) ?_
      refine q_op (dst := some 23) rfl (fun _ ho => ok_pick_tt ho (.tmp rfl) (decide_eq_true hc3) (.bool _)) ?_
      refine hr_region_end ?_
      try dsimp only [HAct.put, List.set_cons_zero, List.set_cons_succ]
      try dsimp only [HAct.put, List.set_cons_zero, List.set_cons_succ]
      exact J0_snd hD hH h
    · refine q_op_g (t := 19) (dst := some 20) rfl rfl rfl (decide_eq_false hc3) (fun _ ho => ok_move ho (.tmp rfl)) ?_
      refine q_op_g (t := 19) (dst := some 21) rfl rfl rfl (decide_eq_false hc3) (fun _ ho => ok_len_sl (q := Sl.a x1) (n := Sl.len x1) (z := Sl.cap x1) ho rfl tu31 (.tmp rfl)) ?_
      refine q_op_g (t := 19) (dst := some 22) rfl rfl rfl (decide_eq_false hc3) (fun _ ho => ok_ibin ho (.tmp rfl) (.int _ _) rfl) ?_
      refine q_op (dst := some 23) rfl (fun _ ho => ok_pick_ff ho (.tmp rfl) (decide_eq_false hc3) (.tmp rfl)) ?_
      refine hr_region_end ?_
      try dsimp only [HAct.put, List.set_cons_zero, List.set_cons_succ]
      try dsimp only [HAct.put, List.set_cons_zero, List.set_cons_succ]
      exact J0_snd hD hH h
end
end rollcalllaw08_SendqPieces
namespace sendq_Queue_Over
abbrev id : Nat := 17
theorem at_ : FnAt Try.prog 17 Try.f17 := ⟨Try.func17, by kernel_rfl⟩
noncomputable def c0 : Code := (Try.f17.body).getD .skip
noncomputable def c1 : Code := match c0 with | .seq x _ => x | _ => .skip
noncomputable def c2 : Code := match c0 with | .seq _ x => x | _ => .skip
noncomputable def c3 : Code := match c2 with | .seq x _ => x | _ => .skip
noncomputable def c4 : Code := match c2 with | .seq _ x => x | _ => .skip
theorem e0 : c0 = .seq c1 c2 := by kernel_rfl
noncomputable def r1 : Array Oper := match c1 with | .region _ x _ => x | _ => #[]
theorem e1 : c1 = .region 0 r1 false := by kernel_rfl
theorem e2 : c2 = .seq c3 c4 := by kernel_rfl
noncomputable def r3 : Array Oper := match c3 with | .region _ x _ => x | _ => #[]
theorem e3 : c3 = .region 1 r3 false := by kernel_rfl
theorem e4 : c4 = .ret := by kernel_rfl
theorem body : Try.f17.body = some c0 := by kernel_rfl
section
variable {base : Nat} {W0 : World} {β0 : Bt}
def J0  (y10 : Bool) (S : HS) : Option ((Bool) × HS) :=
  some (y10, S)
theorem J0_snd   {y10 : Bool} {S : HS} {p : (Bool) × HS} {g0 g1 g2 g3 g4 g5 g6 g7 g8 g9 : HV} (h : J0  y10 S = some p) : HRun Try.prog base W0 β0 17 none [.inRegion r3 [8], .code c4] ⟨[g0, g1, g2, g3, g4, g5, g6, g7, g8, g9, (.bool y10)], []⟩ S (fun v S1 => v = (.bool p.1) ∧ S1 = p.2) := by
  unfold J0 at h
  refine q_op (dst := some 2) rfl (fun _ ho => ok_assign ho (.tmp rfl)) ?_
  refine hr_region_end ?_
  try dsimp only [HAct.put, List.set_cons_zero, List.set_cons_succ]
  cases h
  exact q_ret e4 at_.at_ rfl (res1 rfl rfl) ⟨rfl, rfl⟩
def f (x0 : (Option HA)) (S : HS) : Option ((Bool) × HS) :=
  (if (!Option.isNone x0) = true then
  (Option.bind (x0) fun p2 =>
  (Option.bind (HS.ldB S (HA.fld p2 4)) fun p3 =>
  J0 p3 S)) else
  J0 false S)
theorem snd {x0 : (Option HA)} {S : HS}  {p : (Bool) × HS} (h : f x0 S = some p) : HCall Try.prog base W0 β0 17 [(.ptr x0)] S (fun v S1 => v = (.bool p.1) ∧ S1 = p.2) := by
  unfold f at h
  refine HCall.of_run at_.at_ body ?_
  show HRun Try.prog base W0 β0 17 none [.code c0] ⟨[(.ptr x0), .tup [], .tup [], .tup [], .tup [], .tup [], .tup [], .tup [], .tup [], .tup [], .tup []], []⟩ S _
  refine q_seq e0 ?_
  refine q_region e1 rfl ?_
  refine q_op (dst := some 2) rfl (fun _ ho => ok_assign ho (.bool _)) ?_
  refine hr_region_end ?_
  try dsimp only [HAct.put, List.set_cons_zero, List.set_cons_succ]
  refine q_seq e2 ?_
  refine q_region e3 rfl ?_
  refine q_op (dst := some 3) rfl (fun _ ho => ok_move ho (.tmp rfl)) ?_
  refine q_op (dst := some 4) rfl (fun _ ho => ok_nil_ptr ho tu25 (.tmp rfl) (.inr ⟨rfl, rfl⟩)) ?_
  refine q_op (dst := some 5) rfl (fun _ ho => ok_move ho (.tmp rfl)) ?_
  rcases ifc h with ⟨hc1, h⟩ | ⟨hc1, h⟩
  · refine q_op_g (t := 5) (dst := some 6) rfl rfl rfl hc1 (fun _ ho => ok_move ho (.tmp rfl)) ?_
    try dsimp only [HAct.put, List.set_cons_zero, List.set_cons_succ]
    obtain ⟨p2, hp2, h⟩ := bindo h
    refine q_op_g (t := 5) (dst := some 7) rfl rfl rfl hc1 (fun _ ho => ok_nilCheck_p ho (.tmp rfl) hp2) ?_
    refine q_op_g (t := 5) (dst := some 8) rfl rfl rfl hc1 (fun _ ho => ok_fieldAddr_s ho fi53_4 (by decide) (.tmp rfl) rfl) ?_
    obtain ⟨p3, hp3, h⟩ := bindo h
    refine q_op_g (t := 5) (dst := some 9) rfl rfl rfl hc1 (fun _ ho => ok_load_s ho sc4 (.tmp rfl) rfl (ldB_out hp3)) ?_
    refine q_op (dst := some 10) rfl (fun _ ho => ok_pick_tt ho (.tmp rfl) hc1 (.tmp rfl)) ?_
    try dsimp only [HAct.put, List.set_cons_zero, List.set_cons_succ]
    try dsimp only [HAct.put, List.set_cons_zero, List.set_cons_succ]
    exact J0_snd  h
  · refine q_skip (dst := some 6) (t := 5) rfl rfl rfl (bfalse hc1) ?_
    try dsimp only [HAct.put, List.set_cons_zero, List.set_cons_succ]
    refine q_skip (dst := some 7) (t := 5) rfl rfl rfl (bfalse hc1) ?_
    refine q_skip (dst := some 8) (t := 5) rfl rfl rfl (bfalse hc1) ?_
    refine q_skip (dst := some 9) (t := 5) rfl rfl rfl (bfalse hc1) ?_
    refine q_op (dst := some 10) rfl (fun _ ho => ok_pick_ff ho (.tmp rfl) (bfalse hc1) (.bool _)) ?_
    try dsimp only [HAct.put, List.set_cons_zero, List.set_cons_succ]
    try dsimp only [HAct.put, List.set_cons_zero, List.set_cons_succ]
    exact J0_snd  h
end
end sendq_Queue_Over
namespace rollcalllaw08_lines
abbrev id : Nat := 15
theorem at_ : FnAt Try.prog 15 Try.f15 := ⟨Try.func15, by kernel_rfl⟩
noncomputable def c0 : Code := (Try.f15.body).getD .skip
noncomputable def c1 : Code := match c0 with | .seq x _ => x | _ => .skip
noncomputable def c2 : Code := match c0 with | .seq _ x => x | _ => .skip
noncomputable def c3 : Code := match c2 with | .seq x _ => x | _ => .skip
noncomputable def c4 : Code := match c2 with | .seq _ x => x | _ => .skip
noncomputable def c5 : Code := match c4 with | .seq x _ => x | _ => .skip
noncomputable def c6 : Code := match c4 with | .seq _ x => x | _ => .skip
noncomputable def c7 : Code := match c6 with | .seq x _ => x | _ => .skip
noncomputable def c8 : Code := match c7 with | .seq x _ => x | _ => .skip
noncomputable def c9 : Code := match c7 with | .seq _ x => x | _ => .skip
noncomputable def c10 : Code := match c9 with | .cond _ x _ => x | _ => .skip
noncomputable def c11 : Code := match c10 with | .seq x _ => x | _ => .skip
noncomputable def c12 : Code := match c10 with | .seq _ x => x | _ => .skip
noncomputable def c13 : Code := match c9 with | .cond _ _ x => x | _ => .skip
noncomputable def c14 : Code := match c6 with | .seq _ x => x | _ => .skip
noncomputable def c15 : Code := match c14 with | .seq x _ => x | _ => .skip
noncomputable def c16 : Code := match c15 with | .seq x _ => x | _ => .skip
noncomputable def c17 : Code := match c15 with | .seq _ x => x | _ => .skip
noncomputable def c18 : Code := match c17 with | .block _ x => x | _ => .skip
noncomputable def c19 : Code := match c18 with | .rangeFunc _ _ x _ => x | _ => .skip
noncomputable def c20 : Code := match c18 with | .rangeFunc _ _ _ x => x | _ => .skip
noncomputable def c21 : Code := match c20 with | .block _ x => x | _ => .skip
noncomputable def c22 : Code := match c21 with | .seq x _ => x | _ => .skip
noncomputable def c23 : Code := match c22 with | .seq x _ => x | _ => .skip
noncomputable def c24 : Code := match c22 with | .seq _ x => x | _ => .skip
noncomputable def c25 : Code := match c24 with | .cond _ x _ => x | _ => .skip
noncomputable def c26 : Code := match c25 with | .seq x _ => x | _ => .skip
noncomputable def c27 : Code := match c25 with | .seq _ x => x | _ => .skip
noncomputable def c28 : Code := match c24 with | .cond _ _ x => x | _ => .skip
noncomputable def c29 : Code := match c21 with | .seq _ x => x | _ => .skip
noncomputable def c30 : Code := match c14 with | .seq _ x => x | _ => .skip
noncomputable def c31 : Code := match c30 with | .seq x _ => x | _ => .skip
noncomputable def c32 : Code := match c30 with | .seq _ x => x | _ => .skip
theorem e0 : c0 = .seq c1 c2 := by kernel_rfl
noncomputable def r1 : Array Oper := match c1 with | .region _ x _ => x | _ => #[]
theorem e1 : c1 = .region 0 r1 false := by kernel_rfl
theorem e2 : c2 = .seq c3 c4 := by kernel_rfl
noncomputable def r3 : Array Oper := match c3 with | .region _ x _ => x | _ => #[]
theorem e3 : c3 = .region 1 r3 false := by kernel_rfl
theorem e4 : c4 = .seq c5 c6 := by kernel_rfl
noncomputable def r5 : Array Oper := match c5 with | .region _ x _ => x | _ => #[]
theorem e5 : c5 = .region 2 r5 false := by kernel_rfl
theorem e6 : c6 = .seq c7 c14 := by kernel_rfl
theorem e7 : c7 = .seq c8 c9 := by kernel_rfl
noncomputable def r8 : Array Oper := match c8 with | .region _ x _ => x | _ => #[]
theorem e8 : c8 = .region 3 r8 false := by kernel_rfl
theorem e9 : c9 = .cond (.tmp 12) c10 c13 := by kernel_rfl
theorem e10 : c10 = .seq c11 c12 := by kernel_rfl
noncomputable def r11 : Array Oper := match c11 with | .region _ x _ => x | _ => #[]
theorem e11 : c11 = .region 4 r11 false := by kernel_rfl
theorem e12 : c12 = .ret := by kernel_rfl
theorem e13 : c13 = .skip := by kernel_rfl
theorem e14 : c14 = .seq c15 c30 := by kernel_rfl
theorem e15 : c15 = .seq c16 c17 := by kernel_rfl
noncomputable def r16 : Array Oper := match c16 with | .region _ x _ => x | _ => #[]
theorem e16 : c16 = .region 5 r16 false := by kernel_rfl
theorem e17 : c17 = .block 0 c18 := by kernel_rfl
theorem e18 : c18 = .rangeFunc (.tmp 13) #[14] c19 c20 := by kernel_rfl
noncomputable def r19 : Array Oper := match c19 with | .region _ x _ => x | _ => #[]
theorem e19 : c19 = .region 6 r19 false := by kernel_rfl
theorem e20 : c20 = .block 1 c21 := by kernel_rfl
theorem e21 : c21 = .seq c22 c29 := by kernel_rfl
theorem e22 : c22 = .seq c23 c24 := by kernel_rfl
noncomputable def r23 : Array Oper := match c23 with | .region _ x _ => x | _ => #[]
theorem e23 : c23 = .region 7 r23 false := by kernel_rfl
theorem e24 : c24 = .cond (.tmp 18) c25 c28 := by kernel_rfl
theorem e25 : c25 = .seq c26 c27 := by kernel_rfl
noncomputable def r26 : Array Oper := match c26 with | .region _ x _ => x | _ => #[]
theorem e26 : c26 = .region 8 r26 false := by kernel_rfl
theorem e27 : c27 = .ret := by kernel_rfl
theorem e28 : c28 = .skip := by kernel_rfl
noncomputable def r29 : Array Oper := match c29 with | .region _ x _ => x | _ => #[]
theorem e29 : c29 = .region 9 r29 false := by kernel_rfl
theorem e30 : c30 = .seq c31 c32 := by kernel_rfl
noncomputable def r31 : Array Oper := match c31 with | .region _ x _ => x | _ => #[]
theorem e31 : c31 = .region 10 r31 false := by kernel_rfl
theorem e32 : c32 = .ret := by kernel_rfl
theorem body : Try.f15.body = some c0 := by kernel_rfl
section
variable {base : Nat} {W0 : World} {β0 : Bt}
def J0 (D : Dp) (H : Hd) (l : Nat) (y3 : (Option HA)) (y4 : (Option HA)) (y5 : (Option HA)) (y6 : (Option HA)) (y14 : (List UInt8)) (S : HS) : Option (HV × HS) :=
  (Option.bind (HS.begin_ S l) fun p13 =>
  (Option.bind (y6) fun p14 =>
  (Option.bind (HS.ldSl p13 p14) fun p15 =>
  (Option.bind (y3) fun p16 =>
  (Option.bind (HS.ldI p13 .i64 p16) fun p17 =>
  (if (Sl.len p15 : Int) > p17 then
  (Option.bind (y4) fun p19 =>
  (Option.bind (HS.sets p13 p19 [(Sl.hv Sl.nil)]) fun p20 =>
  (Option.bind (y5) fun p21 =>
  (Option.bind (HS.sets p20 p21 [(.bool false)]) fun p22 =>
  (HS.endr p22 l (some .ret)))))) else
  (Option.bind (y6) fun p23 =>
  (Option.bind (HS.ldSl p13 p23) fun p24 =>
  (letv (HS.lit p13 [[(.str y14)]] 1) fun p25 =>
  (Option.bind (HS.rows (p25.2) (p25.1) 1) fun p26 =>
  (Option.bind (HS.app (p25.2) p24 p26 1) fun p27 =>
  (Option.bind (y6) fun p28 =>
  (Option.bind (HS.sets (p27.2) p28 [(Sl.hv (p27.1))]) fun p29 =>
  (HS.endr p29 l none))))))))))))))
theorem J0_snd {D : Dp} {H : Hd} {l : Nat} (hD : DSound Try.prog base W0 D) (hH : HSound Try.prog base W0 β0 H)  {y3 : (Option HA)} {y4 : (Option HA)} {y5 : (Option HA)} {y6 : (Option HA)} {y14 : (List UInt8)} {S : HS} {p : HV × HS} {g0 g1 g2 g7 g8 g9 g10 g11 g12 g13 g15 g16 g17 g18 g19 g20 g21 g22 g23 : HV} (h : J0 D H l y3 y4 y5 y6 y14 S = some p) : HRun Try.prog base W0 β0 15 (some l) [.code c19, .beginRound, .code c20] ⟨[g0, g1, g2, (.ptr y3), (.ptr y4), (.ptr y5), (.ptr y6), g7, g8, g9, g10, g11, g12, g13, (.str y14), g15, g16, g17, g18, g19, g20, g21, g22, g23], []⟩ S (fun v S1 => v = p.1 ∧ S1 = p.2) := by
  unfold J0 at h
  refine q_region e19 rfl ?_
  refine q_op (dst := some 8) rfl (fun _ ho => ok_assign ho (.tmp rfl)) ?_
  refine hr_region_end ?_
  try dsimp only [HAct.put, List.set_cons_zero, List.set_cons_succ]
  obtain ⟨p13, hp13, h⟩ := bindo h
  refine q_begin hp13 ?_
  refine q_block e20 ?_
  refine q_seq e21 ?_
  refine q_seq e22 ?_
  refine q_region e23 rfl ?_
  obtain ⟨p14, hp14, h⟩ := bindo h
  obtain ⟨p15, hp15, h⟩ := bindo h
  refine q_op (dst := some 15) rfl (fun _ ho => ok_load_s ho sc36 (.tmp rfl) hp14 (ldSl_out hp15)) ?_
  refine q_op (dst := some 16) rfl (fun _ ho => ok_len_sl (q := Sl.a p15) (n := Sl.len p15) (z := Sl.cap p15) ho rfl tu36 (.tmp rfl)) ?_
  obtain ⟨p16, hp16, h⟩ := bindo h
  obtain ⟨p17, hp17, h⟩ := bindo h
  refine q_op (dst := some 17) rfl (fun _ ho => ok_load_s ho sc3 (.tmp rfl) hp16 (ldI_out hp17)) ?_
  refine q_op (dst := some 18) rfl (fun _ ho => ok_ibin ho (.tmp rfl) (.tmp rfl) rfl) ?_
  refine hr_region_end ?_
  try dsimp only [HAct.put, List.set_cons_zero, List.set_cons_succ]
  rcases ifc h with ⟨hc18, h⟩ | ⟨hc18, h⟩
  · refine q_cond_t e24 (.tmp rfl) (decide_eq_true hc18) ?_
    refine q_seq e25 ?_
    refine q_region e26 rfl ?_
    obtain ⟨p19, hp19, h⟩ := bindo h
    obtain ⟨p20, hp20, h⟩ := bindo h
    refine q_op (dst := none) rfl (fun _ ho => ok_store_s (v := (Sl.hv Sl.nil)) ho sz36 (.tmp rfl) hp19 (.const fun _ => .slNil none) rfl hp20) ?_
    obtain ⟨p21, hp21, h⟩ := bindo h
    obtain ⟨p22, hp22, h⟩ := bindo h
    refine q_op (dst := none) rfl (fun _ ho => ok_store_s (v := (.bool false)) ho sz4 (.tmp rfl) hp21 (.bool _) rfl hp22) ?_
    refine hr_region_end ?_
    try dsimp only [HAct.put, List.set_cons_zero, List.set_cons_succ]
    exact q_round_ret e27 h ⟨rfl, rfl⟩
  · refine q_cond_f e24 (.tmp rfl) (decide_eq_false hc18) ?_
    refine q_skipc e28 ?_
    refine q_region e29 rfl ?_
    obtain ⟨p23, hp23, h⟩ := bindo h
    obtain ⟨p24, hp24, h⟩ := bindo h
    refine q_op (dst := some 19) rfl (fun _ ho => ok_load_s ho sc36 (.tmp rfl) hp23 (ldSl_out hp24)) ?_
    refine q_op (dst := some 20) rfl (fun _ ho => ok_move ho (.tmp rfl)) ?_
    obtain ⟨p25, hp25, h⟩ := leto h
    refine q_op (dst := some 21) rfl (fun _ ho => ok_buildSlice_s (xs := [(.tmp 20)]) el36 ho rfl rfl (by decide) (.cons (.tmp rfl) Evs.nil) rfl rfl hp25) ?_
    obtain ⟨p26, hp26, h⟩ := bindo h
    obtain ⟨p27, hp27, h⟩ := bindo h
    refine q_op (dst := some 22) rfl (fun _ ho => ok_append (s := p24) (s1 := (p25.1)) el36 ho rfl rfl ⟨_, tu36⟩ (.tmp rfl) (.tmp rfl) hp26 hp27) ?_
    try dsimp only [HAct.put, List.set_cons_zero, List.set_cons_succ]
    obtain ⟨p28, hp28, h⟩ := bindo h
    obtain ⟨p29, hp29, h⟩ := bindo h
    refine q_op (dst := none) rfl (fun _ ho => ok_store_s (v := (Sl.hv (p27.1))) ho sz36 (.tmp rfl) hp28 (.tmp rfl) rfl hp29) ?_
    refine hr_region_end ?_
    try dsimp only [HAct.put, List.set_cons_zero, List.set_cons_succ]
    refine hr_inBlock ?_
    exact q_round_end h ⟨rfl, rfl⟩
def f (D : Dp) (H : Hd) (x0 : (Option HA)) (x1 : Int) (S : HS) : Option ((Sl × Bool) × HS) :=
  (letv (HS.new S (.cells 1 [[(.int .i64 x1)]] true)) fun p1 =>
  (letv (HS.new p1 (.cells 1 [[(Sl.hv Sl.nil)]] true)) fun p2 =>
  (letv (HS.new p2 (.cells 1 [[(.bool false)]] true)) fun p3 =>
  (letv (HS.new p3 (.cells 1 [[(Sl.hv Sl.nil)]] true)) fun p4 =>
  (Option.bind (sendq_Queue_Lines.f x0 p4) fun p5 =>
  (Option.bind (HV.isNilFn p5.1) fun p6 =>
  (if (p6) = true then
  (Option.bind (HS.sets p5.2 (HA.cell0 p1.next) [(Sl.hv Sl.nil)]) fun p8 =>
  (Option.bind (HS.sets p8 (HA.cell0 p2.next) [(.bool false)]) fun p9 =>
  (Option.bind (HS.leave p9 []) fun p10 =>
  (Option.bind (HS.ldSl p10 (HA.cell0 p1.next)) fun p11 =>
  (Option.bind (HS.ldB p10 (HA.cell0 p2.next)) fun p12 =>
  some ((p11, p12), p10)))))) else
  (Option.bind (D (Hd.set H (HS.next p5.2 + 1) fun vs T =>
  (Option.bind (HS.lp T (HS.next p5.2 + 1)) fun u32 =>
  (Option.bind (args1 vs) fun ar30 =>
  (Option.bind (dS ar30) fun p31 =>
  (J0 D H (HS.next p5.2 + 1) (some (HA.cell0 S.next)) (some (HA.cell0 p1.next)) (some (HA.cell0 p2.next)) (some (HA.cell0 p3.next)) p31 T))))) p5.1 [.fn (.yield (HS.next p5.2 + 1)) [] []] (HS.new (HS.new p5.2 .defer) (.loop .ready none))) fun p33 =>
  (Option.bind (HS.finish p33.2 (HS.next p5.2 + 1)) fun p34 =>
  (Option.bind (pcode p34.1) fun n35 =>
  (if n35 = 0 then
  (Option.bind (HS.ldSl p34.2 (HA.cell0 p3.next)) fun p37 =>
  (Option.bind (HS.sets p34.2 (HA.cell0 p1.next) [(Sl.hv p37)]) fun p38 =>
  (Option.bind (HS.sets p38 (HA.cell0 p2.next) [(.bool true)]) fun p39 =>
  (Option.bind (HS.leave p39 (HS.next p5.2 :: [])) fun p40 =>
  (Option.bind (HS.ldSl p40 (HA.cell0 p1.next)) fun p41 =>
  (Option.bind (HS.ldB p40 (HA.cell0 p2.next)) fun p42 =>
  some ((p41, p42), p40))))))) else
  (if n35 = 1 then
  (Option.bind (HS.leave p34.2 (HS.next p5.2 :: [])) fun p44 =>
  (Option.bind (HS.ldSl p44 (HA.cell0 p1.next)) fun p45 =>
  (Option.bind (HS.ldB p44 (HA.cell0 p2.next)) fun p46 =>
  some ((p45, p46), p44)))) else
  none))))))))))))
theorem snd {D : Dp} {H : Hd} {x0 : (Option HA)} {x1 : Int} {S : HS} (hD : DSound Try.prog base W0 D) (hH : HSound Try.prog base W0 β0 H)  {p : (Sl × Bool) × HS} (h : f D H x0 x1 S = some p) : HCall Try.prog base W0 β0 15 [(.ptr x0), (.int .i64 x1)] S (fun v S1 => v = (.tup [(Sl.hv p.1.1), (.bool p.1.2)]) ∧ S1 = p.2) := by
  unfold f at h
  refine HCall.of_run at_.at_ body ?_
  show HRun Try.prog base W0 β0 15 none [.code c0] ⟨[(.ptr x0), (.int .i64 x1), .tup [], .tup [], .tup [], .tup [], .tup [], .tup [], .tup [], .tup [], .tup [], .tup [], .tup [], .tup [], .tup [], .tup [], .tup [], .tup [], .tup [], .tup [], .tup [], .tup [], .tup [], .tup []], []⟩ S _
  refine q_seq e0 ?_
  refine q_region e1 rfl ?_
  obtain ⟨p1, hp1, h⟩ := leto h
  refine q_op (dst := some 3) rfl (fun _ ho => ok_box_e ho (.tmp rfl) (Nat.zero_lt_succ _) rfl hp1) ?_
  obtain ⟨p2, hp2, h⟩ := leto h
  refine q_op (dst := some 4) rfl (fun _ ho => ok_alloc_e ho zi36 zr36 (by decide) rfl hp2) ?_
  obtain ⟨p3, hp3, h⟩ := leto h
  refine q_op (dst := some 5) rfl (fun _ ho => ok_alloc_e ho zi4 zr4 (by decide) rfl hp3) ?_
  refine hr_region_end ?_
  try dsimp only [HAct.put, List.set_cons_zero, List.set_cons_succ]
  refine q_seq e2 ?_
  refine q_region e3 rfl ?_
  obtain ⟨p4, hp4, h⟩ := leto h
  refine q_op (dst := some 6) rfl (fun _ ho => ok_alloc_e ho zi36 zr36 (by decide) rfl hp4) ?_
  refine hr_region_end ?_
  try dsimp only [HAct.put, List.set_cons_zero, List.set_cons_succ]
  refine q_seq e4 ?_
  refine q_region e5 rfl ?_
  refine q_op (dst := some 9) rfl (fun _ ho => ok_move ho (.tmp rfl)) ?_
  obtain ⟨p5, hp5, h⟩ := bindo h
  refine q_call (dst := some 10) rfl (.func _) (.cons (.tmp rfl) Evs.nil) (HInv.static sendq_Queue_Lines.at_ sendq_Queue_Lines.body (sendq_Queue_Lines.snd  hp5)) ?_
  rintro _ _ ⟨rfl, rfl⟩
  refine q_op (dst := some 7) rfl (fun _ ho => ok_assign ho (.tmp rfl)) ?_
  refine hr_region_end ?_
  try dsimp only [HAct.put, List.set_cons_zero, List.set_cons_succ]
  refine q_seq e6 ?_
  refine q_seq e7 ?_
  refine q_region e8 rfl ?_
  refine q_op (dst := some 11) rfl (fun _ ho => ok_move ho (.tmp rfl)) ?_
  obtain ⟨p6, hp6, h⟩ := bindo h
  refine q_op (dst := some 12) rfl (fun _ ho => ok_nil_fn ho tu50 (.tmp rfl) hp6 (.inl ⟨rfl, rfl⟩)) ?_
  refine hr_region_end ?_
  try dsimp only [HAct.put, List.set_cons_zero, List.set_cons_succ]
  rcases ifc h with ⟨hc7, h⟩ | ⟨hc7, h⟩
  · refine q_cond_t e9 (.tmp rfl) hc7 ?_
    refine q_seq e10 ?_
    refine q_region e11 rfl ?_
    obtain ⟨p8, hp8, h⟩ := bindo h
    refine q_op (dst := none) rfl (fun _ ho => ok_store_s (v := (Sl.hv Sl.nil)) ho sz36 (.tmp rfl) rfl (.const fun _ => .slNil none) rfl hp8) ?_
    obtain ⟨p9, hp9, h⟩ := bindo h
    refine q_op (dst := none) rfl (fun _ ho => ok_store_s (v := (.bool false)) ho sz4 (.tmp rfl) rfl (.bool _) rfl hp9) ?_
    refine hr_region_end ?_
    try dsimp only [HAct.put, List.set_cons_zero, List.set_cons_succ]
    obtain ⟨p10, hp10, h⟩ := bindo h
    obtain ⟨p11, hp11, h⟩ := bindo h
    obtain ⟨p12, hp12, h⟩ := bindo h
    cases h
    exact q_ret e12 at_.at_ hp10 (resL (rs := [.cell 4 36, .cell 5 4]) rfl (.cons (.cell rfl rfl sc36 (ldSl_out hp11)) (.cons (.cell rfl rfl sc4 (ldB_out hp12)) .nil)) (by simp)) ⟨rfl, rfl⟩
  · refine q_cond_f e9 (.tmp rfl) (bfalse hc7) ?_
    refine q_skipc e13 ?_
    refine q_seq e14 ?_
    refine q_seq e15 ?_
    refine q_region e16 rfl ?_
    refine q_op (dst := some 13) rfl (fun _ ho => ok_move ho (.tmp rfl)) ?_
    refine hr_region_end ?_
    try dsimp only [HAct.put, List.set_cons_zero, List.set_cons_succ]
    refine q_block e17 ?_
    obtain ⟨p33, hp33, h⟩ := bindo h
    obtain ⟨p34, hp34, h⟩ := bindo h
    obtain ⟨n35, hn35, h⟩ := bindo h
    refine q_range (D := D) (H := H) e18 (.tmp rfl) hD hH hp33 hp34 ?_ ?_
    · intro β1 hle hLA vs T u T' hr
      obtain ⟨u32, hu32, hr⟩ := bindo hr
      obtain ⟨ar30, har30, hr⟩ := bindo hr
      obtain ⟨p31, hp31, hr⟩ := bindo hr
      rw [args1_out har30]
      refine q_yield2 hLA hu32 rfl rfl ?_
      rw [dS_out hp31]
      simp only [HAct.params, List.set_cons_zero, List.set_cons_succ]
      exact J0_snd hD (hH.up hle) hr
    · rcases ifc h with ⟨hc36, h⟩ | ⟨hc36, h⟩
      · rw [pcode0 hn35 hc36]
        simp only [jumped_none, jumped_some]
        refine hr_inBlock ?_
        refine q_seq e30 ?_
        refine q_region e31 rfl ?_
        obtain ⟨p37, hp37, h⟩ := bindo h
        refine q_op (dst := some 23) rfl (fun _ ho => ok_load_s ho sc36 (.tmp rfl) rfl (ldSl_out hp37)) ?_
        obtain ⟨p38, hp38, h⟩ := bindo h
        refine q_op (dst := none) rfl (fun _ ho => ok_store_s (v := (Sl.hv p37)) ho sz36 (.tmp rfl) rfl (.tmp rfl) rfl hp38) ?_
        obtain ⟨p39, hp39, h⟩ := bindo h
        refine q_op (dst := none) rfl (fun _ ho => ok_store_s (v := (.bool true)) ho sz4 (.tmp rfl) rfl (.bool _) rfl hp39) ?_
        refine hr_region_end ?_
        try dsimp only [HAct.put, List.set_cons_zero, List.set_cons_succ]
        obtain ⟨p40, hp40, h⟩ := bindo h
        obtain ⟨p41, hp41, h⟩ := bindo h
        obtain ⟨p42, hp42, h⟩ := bindo h
        cases h
        exact q_ret e32 at_.at_ hp40 (resL (rs := [.cell 4 36, .cell 5 4]) rfl (.cons (.cell rfl rfl sc36 (ldSl_out hp41)) (.cons (.cell rfl rfl sc4 (ldB_out hp42)) .nil)) (by simp)) ⟨rfl, rfl⟩
      · rcases ifc h with ⟨hc43, h⟩ | ⟨hc43, h⟩
        · rw [pcode1 hn35 hc43]
          simp only [jumped_none, jumped_some]
          obtain ⟨p44, hp44, h⟩ := bindo h
          obtain ⟨p45, hp45, h⟩ := bindo h
          obtain ⟨p46, hp46, h⟩ := bindo h
          cases h
          exact q_ret rfl at_.at_ hp44 (resL (rs := [.cell 4 36, .cell 5 4]) rfl (.cons (.cell rfl rfl sc36 (ldSl_out hp45)) (.cons (.cell rfl rfl sc4 (ldB_out hp46)) .nil)) (by simp)) ⟨rfl, rfl⟩
        · cases h
end
end rollcalllaw08_lines
namespace rollcalllaw08_SendqOver
abbrev id : Nat := 6
theorem at_ : FnAt Try.prog 6 Try.f6 := ⟨Try.func6, by kernel_rfl⟩
noncomputable def c0 : Code := (Try.f6.body).getD .skip
noncomputable def c1 : Code := match c0 with | .seq x _ => x | _ => .skip
noncomputable def c2 : Code := match c0 with | .seq _ x => x | _ => .skip
noncomputable def c3 : Code := match c2 with | .seq x _ => x | _ => .skip
noncomputable def c4 : Code := match c3 with | .seq x _ => x | _ => .skip
noncomputable def c5 : Code := match c3 with | .seq _ x => x | _ => .skip
noncomputable def c6 : Code := match c5 with | .cond _ x _ => x | _ => .skip
noncomputable def c7 : Code := match c6 with | .seq x _ => x | _ => .skip
noncomputable def c8 : Code := match c6 with | .seq _ x => x | _ => .skip
noncomputable def c9 : Code := match c5 with | .cond _ _ x => x | _ => .skip
noncomputable def c10 : Code := match c2 with | .seq _ x => x | _ => .skip
noncomputable def c11 : Code := match c10 with | .seq x _ => x | _ => .skip
noncomputable def c12 : Code := match c10 with | .seq _ x => x | _ => .skip
noncomputable def c13 : Code := match c12 with | .seq x _ => x | _ => .skip
noncomputable def c14 : Code := match c13 with | .seq x _ => x | _ => .skip
noncomputable def c15 : Code := match c13 with | .seq _ x => x | _ => .skip
noncomputable def c16 : Code := match c15 with | .cond _ x _ => x | _ => .skip
noncomputable def c17 : Code := match c16 with | .seq x _ => x | _ => .skip
noncomputable def c18 : Code := match c16 with | .seq _ x => x | _ => .skip
noncomputable def c19 : Code := match c15 with | .cond _ _ x => x | _ => .skip
noncomputable def c20 : Code := match c12 with | .seq _ x => x | _ => .skip
noncomputable def c21 : Code := match c20 with | .seq x _ => x | _ => .skip
noncomputable def c22 : Code := match c20 with | .seq _ x => x | _ => .skip
noncomputable def c23 : Code := match c22 with | .seq x _ => x | _ => .skip
noncomputable def c24 : Code := match c23 with | .seq x _ => x | _ => .skip
noncomputable def c25 : Code := match c23 with | .seq _ x => x | _ => .skip
noncomputable def c26 : Code := match c25 with | .block _ x => x | _ => .skip
noncomputable def c27 : Code := match c26 with | .loop x => x | _ => .skip
noncomputable def c28 : Code := match c27 with | .seq x _ => x | _ => .skip
noncomputable def c29 : Code := match c28 with | .seq x _ => x | _ => .skip
noncomputable def c30 : Code := match c28 with | .seq _ x => x | _ => .skip
noncomputable def c31 : Code := match c30 with | .cond _ x _ => x | _ => .skip
noncomputable def c32 : Code := match c30 with | .cond _ _ x => x | _ => .skip
noncomputable def c33 : Code := match c27 with | .seq _ x => x | _ => .skip
noncomputable def c34 : Code := match c33 with | .seq x _ => x | _ => .skip
noncomputable def c35 : Code := match c34 with | .block _ x => x | _ => .skip
noncomputable def c36 : Code := match c33 with | .seq _ x => x | _ => .skip
noncomputable def c37 : Code := match c22 with | .seq _ x => x | _ => .skip
noncomputable def c38 : Code := match c37 with | .seq x _ => x | _ => .skip
noncomputable def c39 : Code := match c38 with | .seq x _ => x | _ => .skip
noncomputable def c40 : Code := match c38 with | .seq _ x => x | _ => .skip
noncomputable def c41 : Code := match c40 with | .block _ x => x | _ => .skip
noncomputable def c42 : Code := match c41 with | .loop x => x | _ => .skip
noncomputable def c43 : Code := match c42 with | .seq x _ => x | _ => .skip
noncomputable def c44 : Code := match c43 with | .seq x _ => x | _ => .skip
noncomputable def c45 : Code := match c43 with | .seq _ x => x | _ => .skip
noncomputable def c46 : Code := match c45 with | .cond _ x _ => x | _ => .skip
noncomputable def c47 : Code := match c45 with | .cond _ _ x => x | _ => .skip
noncomputable def c48 : Code := match c42 with | .seq _ x => x | _ => .skip
noncomputable def c49 : Code := match c48 with | .seq x _ => x | _ => .skip
noncomputable def c50 : Code := match c49 with | .block _ x => x | _ => .skip
noncomputable def c51 : Code := match c50 with | .seq x _ => x | _ => .skip
noncomputable def c52 : Code := match c50 with | .seq _ x => x | _ => .skip
noncomputable def c53 : Code := match c52 with | .cond _ x _ => x | _ => .skip
noncomputable def c54 : Code := match c53 with | .seq x _ => x | _ => .skip
noncomputable def c55 : Code := match c53 with | .seq _ x => x | _ => .skip
noncomputable def c56 : Code := match c52 with | .cond _ _ x => x | _ => .skip
noncomputable def c57 : Code := match c48 with | .seq _ x => x | _ => .skip
noncomputable def c58 : Code := match c37 with | .seq _ x => x | _ => .skip
noncomputable def c59 : Code := match c58 with | .seq x _ => x | _ => .skip
noncomputable def c60 : Code := match c59 with | .seq x _ => x | _ => .skip
noncomputable def c61 : Code := match c59 with | .seq _ x => x | _ => .skip
noncomputable def c62 : Code := match c61 with | .cond _ x _ => x | _ => .skip
noncomputable def c63 : Code := match c62 with | .seq x _ => x | _ => .skip
noncomputable def c64 : Code := match c62 with | .seq _ x => x | _ => .skip
noncomputable def c65 : Code := match c61 with | .cond _ _ x => x | _ => .skip
noncomputable def c66 : Code := match c58 with | .seq _ x => x | _ => .skip
noncomputable def c67 : Code := match c66 with | .seq x _ => x | _ => .skip
noncomputable def c68 : Code := match c66 with | .seq _ x => x | _ => .skip
noncomputable def c69 : Code := match c68 with | .seq x _ => x | _ => .skip
noncomputable def c70 : Code := match c68 with | .seq _ x => x | _ => .skip
noncomputable def c71 : Code := match c70 with | .seq x _ => x | _ => .skip
noncomputable def c72 : Code := match c70 with | .seq _ x => x | _ => .skip
noncomputable def c73 : Code := match c72 with | .seq x _ => x | _ => .skip
noncomputable def c74 : Code := match c72 with | .seq _ x => x | _ => .skip
theorem e0 : c0 = .seq c1 c2 := by kernel_rfl
noncomputable def r1 : Array Oper := match c1 with | .region _ x _ => x | _ => #[]
theorem e1 : c1 = .region 0 r1 false := by kernel_rfl
theorem e2 : c2 = .seq c3 c10 := by kernel_rfl
theorem e3 : c3 = .seq c4 c5 := by kernel_rfl
noncomputable def r4 : Array Oper := match c4 with | .region _ x _ => x | _ => #[]
theorem e4 : c4 = .region 1 r4 false := by kernel_rfl
theorem e5 : c5 = .cond (.tmp 14) c6 c9 := by kernel_rfl
theorem e6 : c6 = .seq c7 c8 := by kernel_rfl
noncomputable def r7 : Array Oper := match c7 with | .region _ x _ => x | _ => #[]
theorem e7 : c7 = .region 2 r7 false := by kernel_rfl
theorem e8 : c8 = .ret := by kernel_rfl
theorem e9 : c9 = .skip := by kernel_rfl
theorem e10 : c10 = .seq c11 c12 := by kernel_rfl
noncomputable def r11 : Array Oper := match c11 with | .region _ x _ => x | _ => #[]
theorem e11 : c11 = .region 3 r11 false := by kernel_rfl
theorem e12 : c12 = .seq c13 c20 := by kernel_rfl
theorem e13 : c13 = .seq c14 c15 := by kernel_rfl
noncomputable def r14 : Array Oper := match c14 with | .region _ x _ => x | _ => #[]
theorem e14 : c14 = .region 4 r14 false := by kernel_rfl
theorem e15 : c15 = .cond (.tmp 20) c16 c19 := by kernel_rfl
theorem e16 : c16 = .seq c17 c18 := by kernel_rfl
noncomputable def r17 : Array Oper := match c17 with | .region _ x _ => x | _ => #[]
theorem e17 : c17 = .region 5 r17 false := by kernel_rfl
theorem e18 : c18 = .ret := by kernel_rfl
theorem e19 : c19 = .skip := by kernel_rfl
theorem e20 : c20 = .seq c21 c22 := by kernel_rfl
noncomputable def r21 : Array Oper := match c21 with | .region _ x _ => x | _ => #[]
theorem e21 : c21 = .region 6 r21 false := by kernel_rfl
theorem e22 : c22 = .seq c23 c37 := by kernel_rfl
theorem e23 : c23 = .seq c24 c25 := by kernel_rfl
noncomputable def r24 : Array Oper := match c24 with | .region _ x _ => x | _ => #[]
theorem e24 : c24 = .region 7 r24 false := by kernel_rfl
theorem e25 : c25 = .block 0 c26 := by kernel_rfl
theorem e26 : c26 = .loop c27 := by kernel_rfl
theorem e27 : c27 = .seq c28 c33 := by kernel_rfl
theorem e28 : c28 = .seq c29 c30 := by kernel_rfl
noncomputable def r29 : Array Oper := match c29 with | .region _ x _ => x | _ => #[]
theorem e29 : c29 = .region 8 r29 false := by kernel_rfl
theorem e30 : c30 = .cond (.tmp 28) c31 c32 := by kernel_rfl
theorem e31 : c31 = .skip := by kernel_rfl
theorem e32 : c32 = .exit 0 := by kernel_rfl
theorem e33 : c33 = .seq c34 c36 := by kernel_rfl
theorem e34 : c34 = .block 1 c35 := by kernel_rfl
noncomputable def r35 : Array Oper := match c35 with | .region _ x _ => x | _ => #[]
theorem e35 : c35 = .region 10 r35 false := by kernel_rfl
noncomputable def r36 : Array Oper := match c36 with | .region _ x _ => x | _ => #[]
theorem e36 : c36 = .region 9 r36 false := by kernel_rfl
theorem e37 : c37 = .seq c38 c58 := by kernel_rfl
theorem e38 : c38 = .seq c39 c40 := by kernel_rfl
noncomputable def r39 : Array Oper := match c39 with | .region _ x _ => x | _ => #[]
theorem e39 : c39 = .region 11 r39 false := by kernel_rfl
theorem e40 : c40 = .block 2 c41 := by kernel_rfl
theorem e41 : c41 = .loop c42 := by kernel_rfl
theorem e42 : c42 = .seq c43 c48 := by kernel_rfl
theorem e43 : c43 = .seq c44 c45 := by kernel_rfl
noncomputable def r44 : Array Oper := match c44 with | .region _ x _ => x | _ => #[]
theorem e44 : c44 = .region 12 r44 false := by kernel_rfl
theorem e45 : c45 = .cond (.tmp 41) c46 c47 := by kernel_rfl
theorem e46 : c46 = .skip := by kernel_rfl
theorem e47 : c47 = .exit 2 := by kernel_rfl
theorem e48 : c48 = .seq c49 c57 := by kernel_rfl
theorem e49 : c49 = .block 3 c50 := by kernel_rfl
theorem e50 : c50 = .seq c51 c52 := by kernel_rfl
noncomputable def r51 : Array Oper := match c51 with | .region _ x _ => x | _ => #[]
theorem e51 : c51 = .region 14 r51 false := by kernel_rfl
theorem e52 : c52 = .cond (.tmp 45) c53 c56 := by kernel_rfl
theorem e53 : c53 = .seq c54 c55 := by kernel_rfl
noncomputable def r54 : Array Oper := match c54 with | .region _ x _ => x | _ => #[]
theorem e54 : c54 = .region 15 r54 false := by kernel_rfl
theorem e55 : c55 = .ret := by kernel_rfl
theorem e56 : c56 = .skip := by kernel_rfl
noncomputable def r57 : Array Oper := match c57 with | .region _ x _ => x | _ => #[]
theorem e57 : c57 = .region 13 r57 false := by kernel_rfl
theorem e58 : c58 = .seq c59 c66 := by kernel_rfl
theorem e59 : c59 = .seq c60 c61 := by kernel_rfl
noncomputable def r60 : Array Oper := match c60 with | .region _ x _ => x | _ => #[]
theorem e60 : c60 = .region 16 r60 false := by kernel_rfl
theorem e61 : c61 = .cond (.tmp 62) c62 c65 := by kernel_rfl
theorem e62 : c62 = .seq c63 c64 := by kernel_rfl
noncomputable def r63 : Array Oper := match c63 with | .region _ x _ => x | _ => #[]
theorem e63 : c63 = .region 17 r63 false := by kernel_rfl
theorem e64 : c64 = .ret := by kernel_rfl
theorem e65 : c65 = .skip := by kernel_rfl
theorem e66 : c66 = .seq c67 c68 := by kernel_rfl
noncomputable def r67 : Array Oper := match c67 with | .region _ x _ => x | _ => #[]
theorem e67 : c67 = .region 18 r67 false := by kernel_rfl
theorem e68 : c68 = .seq c69 c70 := by kernel_rfl
noncomputable def r69 : Array Oper := match c69 with | .region _ x _ => x | _ => #[]
theorem e69 : c69 = .region 19 r69 false := by kernel_rfl
theorem e70 : c70 = .seq c71 c72 := by kernel_rfl
noncomputable def r71 : Array Oper := match c71 with | .region _ x _ => x | _ => #[]
theorem e71 : c71 = .region 20 r71 false := by kernel_rfl
theorem e72 : c72 = .seq c73 c74 := by kernel_rfl
noncomputable def r73 : Array Oper := match c73 with | .region _ x _ => x | _ => #[]
theorem e73 : c73 = .region 21 r73 false := by kernel_rfl
theorem e74 : c74 = .ret := by kernel_rfl
theorem body : Try.f6.body = some c0 := by kernel_rfl
section
variable {base : Nat} {W0 : World} {β0 : Bt}
def J13 (D : Dp) (H : Hd) (k : Nat) (y117 : Bool) (S : HS) : Option ((Bool) × HS) :=
  some (y117, S)
theorem J13_snd {D : Dp} {H : Hd} {k : Nat} (hD : DSound Try.prog base W0 D) (hH : HSound Try.prog base W0 β0 H)  {y117 : Bool} {S : HS} {p : (Bool) × HS} {g0 g1 g2 g3 g4 g5 g6 g7 g8 g9 g10 g11 g12 g13 g14 g15 g16 g17 g18 g19 g20 g21 g22 g23 g24 g25 g26 g27 g28 g29 g30 g31 g32 g33 g34 g35 g36 g37 g38 g39 g40 g41 g42 g43 g44 g45 g46 g47 g48 g49 g50 g51 g52 g53 g54 g55 g56 g57 g58 g59 g60 g61 g62 g63 g64 g65 g66 g67 g68 g69 g70 g71 g72 g73 g74 g75 g76 g77 g78 g79 g80 g81 g82 g83 g84 g85 g86 g87 g88 g89 g90 g91 g92 g93 g94 g95 g96 g97 g98 g99 g100 g101 g102 g103 g104 g105 g106 g107 g108 g109 g110 g111 g112 g113 g114 g115 g116 : HV} (h : J13 D H k y117 S = some p) : HRun Try.prog base W0 β0 6 none [.inRegion r73 [48], .code c74] ⟨[g0, g1, g2, g3, g4, g5, g6, g7, g8, g9, g10, g11, g12, g13, g14, g15, g16, g17, g18, g19, g20, g21, g22, g23, g24, g25, g26, g27, g28, g29, g30, g31, g32, g33, g34, g35, g36, g37, g38, g39, g40, g41, g42, g43, g44, g45, g46, g47, g48, g49, g50, g51, g52, g53, g54, g55, g56, g57, g58, g59, g60, g61, g62, g63, g64, g65, g66, g67, g68, g69, g70, g71, g72, g73, g74, g75, g76, g77, g78, g79, g80, g81, g82, g83, g84, g85, g86, g87, g88, g89, g90, g91, g92, g93, g94, g95, g96, g97, g98, g99, g100, g101, g102, g103, g104, g105, g106, g107, g108, g109, g110, g111, g112, g113, g114, g115, g116, (.bool y117)], []⟩ S (fun v S1 => v = (.bool p.1) ∧ S1 = p.2) := by
  unfold J13 at h
  refine q_op (dst := some 4) rfl (fun _ ho => ok_assign ho (.tmp rfl)) ?_
  refine hr_region_end ?_
  try dsimp only [HAct.put, List.set_cons_zero, List.set_cons_succ]
  cases h
  exact q_ret e74 at_.at_ rfl (res1 rfl rfl) ⟨rfl, rfl⟩
def J12 (D : Dp) (H : Hd) (k : Nat) (y11 : Sl) (y112 : Bool) (S : HS) : Option ((Bool) × HS) :=
  (if y112 = true then
  J13 D H k (decide ((Sl.len y11 : Int) = 0)) S else
  J13 D H k false S)
theorem J12_snd {D : Dp} {H : Hd} {k : Nat} (hD : DSound Try.prog base W0 D) (hH : HSound Try.prog base W0 β0 H)  {y11 : Sl} {y112 : Bool} {S : HS} {p : (Bool) × HS} {g0 g1 g2 g3 g4 g5 g6 g7 g8 g9 g10 g12 g13 g14 g15 g16 g17 g18 g19 g20 g21 g22 g23 g24 g25 g26 g27 g28 g29 g30 g31 g32 g33 g34 g35 g36 g37 g38 g39 g40 g41 g42 g43 g44 g45 g46 g47 g48 g49 g50 g51 g52 g53 g54 g55 g56 g57 g58 g59 g60 g61 g62 g63 g64 g65 g66 g67 g68 g69 g70 g71 g72 g73 g74 g75 g76 g77 g78 g79 g80 g81 g82 g83 g84 g85 g86 g87 g88 g89 g90 g91 g92 g93 g94 g95 g96 g97 g98 g99 g100 g101 g102 g103 g104 g105 g106 g107 g108 g109 g110 g111 g113 g114 g115 g116 g117 : HV} (h : J12 D H k y11 y112 S = some p) : HRun Try.prog base W0 β0 6 none [.inRegion r73 [43, 44, 45, 46, 47, 48], .code c74] ⟨[g0, g1, g2, g3, g4, g5, g6, g7, g8, g9, g10, (Sl.hv y11), g12, g13, g14, g15, g16, g17, g18, g19, g20, g21, g22, g23, g24, g25, g26, g27, g28, g29, g30, g31, g32, g33, g34, g35, g36, g37, g38, g39, g40, g41, g42, g43, g44, g45, g46, g47, g48, g49, g50, g51, g52, g53, g54, g55, g56, g57, g58, g59, g60, g61, g62, g63, g64, g65, g66, g67, g68, g69, g70, g71, g72, g73, g74, g75, g76, g77, g78, g79, g80, g81, g82, g83, g84, g85, g86, g87, g88, g89, g90, g91, g92, g93, g94, g95, g96, g97, g98, g99, g100, g101, g102, g103, g104, g105, g106, g107, g108, g109, g110, g111, (.bool y112), g113, g114, g115, g116, g117], []⟩ S (fun v S1 => v = (.bool p.1) ∧ S1 = p.2) := by
  unfold J12 at h
  refine q_op (dst := some 113) rfl (fun _ ho => ok_move ho (.tmp rfl)) ?_
  try dsimp only [HAct.put, List.set_cons_zero, List.set_cons_succ]
  rcases ifc h with ⟨hc37, h⟩ | ⟨hc37, h⟩
  · refine q_op_g (t := 113) (dst := some 114) rfl rfl rfl hc37 (fun _ ho => ok_move ho (.tmp rfl)) ?_
    refine q_op_g (t := 113) (dst := some 115) rfl rfl rfl hc37 (fun _ ho => ok_len_sl (q := Sl.a y11) (n := Sl.len y11) (z := Sl.cap y11) ho rfl tu36 (.tmp rfl)) ?_
    refine q_op_g (t := 113) (dst := some 116) rfl rfl rfl hc37 (fun _ ho => ok_ibin ho (.tmp rfl) (.int _ _) rfl) ?_
    refine q_op (dst := some 117) rfl (fun _ ho => ok_pick_tt ho (.tmp rfl) hc37 (.tmp rfl)) ?_
    try dsimp only [HAct.put, List.set_cons_zero, List.set_cons_succ]
    try dsimp only [HAct.put, List.set_cons_zero, List.set_cons_succ]
    exact J13_snd hD hH h
  · refine q_skip (dst := some 114) (t := 113) rfl rfl rfl (bfalse hc37) ?_
    refine q_skip (dst := some 115) (t := 113) rfl rfl rfl (bfalse hc37) ?_
    refine q_skip (dst := some 116) (t := 113) rfl rfl rfl (bfalse hc37) ?_
    refine q_op (dst := some 117) rfl (fun _ ho => ok_pick_ff ho (.tmp rfl) (bfalse hc37) (.bool _)) ?_
    try dsimp only [HAct.put, List.set_cons_zero, List.set_cons_succ]
    try dsimp only [HAct.put, List.set_cons_zero, List.set_cons_succ]
    exact J13_snd hD hH h
def J11 (D : Dp) (H : Hd) (k : Nat) (y11 : Sl) (y12 : Bool) (y109 : Bool) (S : HS) : Option ((Bool) × HS) :=
  (if y109 = true then
  J12 D H k y11 y12 S else
  J12 D H k y11 false S)
theorem J11_snd {D : Dp} {H : Hd} {k : Nat} (hD : DSound Try.prog base W0 D) (hH : HSound Try.prog base W0 β0 H)  {y11 : Sl} {y12 : Bool} {y109 : Bool} {S : HS} {p : (Bool) × HS} {g0 g1 g2 g3 g4 g5 g6 g7 g8 g9 g10 g13 g14 g15 g16 g17 g18 g19 g20 g21 g22 g23 g24 g25 g26 g27 g28 g29 g30 g31 g32 g33 g34 g35 g36 g37 g38 g39 g40 g41 g42 g43 g44 g45 g46 g47 g48 g49 g50 g51 g52 g53 g54 g55 g56 g57 g58 g59 g60 g61 g62 g63 g64 g65 g66 g67 g68 g69 g70 g71 g72 g73 g74 g75 g76 g77 g78 g79 g80 g81 g82 g83 g84 g85 g86 g87 g88 g89 g90 g91 g92 g93 g94 g95 g96 g97 g98 g99 g100 g101 g102 g103 g104 g105 g106 g107 g108 g110 g111 g112 g113 g114 g115 g116 g117 : HV} (h : J11 D H k y11 y12 y109 S = some p) : HRun Try.prog base W0 β0 6 none [.inRegion r73 [40, 41, 42, 43, 44, 45, 46, 47, 48], .code c74] ⟨[g0, g1, g2, g3, g4, g5, g6, g7, g8, g9, g10, (Sl.hv y11), (.bool y12), g13, g14, g15, g16, g17, g18, g19, g20, g21, g22, g23, g24, g25, g26, g27, g28, g29, g30, g31, g32, g33, g34, g35, g36, g37, g38, g39, g40, g41, g42, g43, g44, g45, g46, g47, g48, g49, g50, g51, g52, g53, g54, g55, g56, g57, g58, g59, g60, g61, g62, g63, g64, g65, g66, g67, g68, g69, g70, g71, g72, g73, g74, g75, g76, g77, g78, g79, g80, g81, g82, g83, g84, g85, g86, g87, g88, g89, g90, g91, g92, g93, g94, g95, g96, g97, g98, g99, g100, g101, g102, g103, g104, g105, g106, g107, g108, (.bool y109), g110, g111, g112, g113, g114, g115, g116, g117], []⟩ S (fun v S1 => v = (.bool p.1) ∧ S1 = p.2) := by
  unfold J11 at h
  refine q_op (dst := some 110) rfl (fun _ ho => ok_move ho (.tmp rfl)) ?_
  rcases ifc h with ⟨hc36, h⟩ | ⟨hc36, h⟩
  · refine q_op_g (t := 110) (dst := some 111) rfl rfl rfl hc36 (fun _ ho => ok_move ho (.tmp rfl)) ?_
    refine q_op (dst := some 112) rfl (fun _ ho => ok_pick_tt ho (.tmp rfl) hc36 (.tmp rfl)) ?_
    try dsimp only [HAct.put, List.set_cons_zero, List.set_cons_succ]
    exact J12_snd hD hH h
  · refine q_skip (dst := some 111) (t := 110) rfl rfl rfl (bfalse hc36) ?_
    refine q_op (dst := some 112) rfl (fun _ ho => ok_pick_ff ho (.tmp rfl) (bfalse hc36) (.bool _)) ?_
    try dsimp only [HAct.put, List.set_cons_zero, List.set_cons_succ]
    exact J12_snd hD hH h
def J10 (D : Dp) (H : Hd) (k : Nat) (y10 : (Option HA)) (y11 : Sl) (y12 : Bool) (y104 : Bool) (S : HS) : Option ((Bool) × HS) :=
  (if y104 = true then
  (Option.bind (sendq_Queue_Over.f y10 S) fun p35 =>
  J11 D H k y11 y12 (!p35.1) p35.2) else
  J11 D H k y11 y12 false S)
theorem J10_snd {D : Dp} {H : Hd} {k : Nat} (hD : DSound Try.prog base W0 D) (hH : HSound Try.prog base W0 β0 H)  {y10 : (Option HA)} {y11 : Sl} {y12 : Bool} {y104 : Bool} {S : HS} {p : (Bool) × HS} {g0 g1 g2 g3 g4 g5 g6 g7 g8 g9 g13 g14 g15 g16 g17 g18 g19 g20 g21 g22 g23 g24 g25 g26 g27 g28 g29 g30 g31 g32 g33 g34 g35 g36 g37 g38 g39 g40 g41 g42 g43 g44 g45 g46 g47 g48 g49 g50 g51 g52 g53 g54 g55 g56 g57 g58 g59 g60 g61 g62 g63 g64 g65 g66 g67 g68 g69 g70 g71 g72 g73 g74 g75 g76 g77 g78 g79 g80 g81 g82 g83 g84 g85 g86 g87 g88 g89 g90 g91 g92 g93 g94 g95 g96 g97 g98 g99 g100 g101 g102 g103 g105 g106 g107 g108 g109 g110 g111 g112 g113 g114 g115 g116 g117 : HV} (h : J10 D H k y10 y11 y12 y104 S = some p) : HRun Try.prog base W0 β0 6 none [.inRegion r73 [35, 36, 37, 38, 39, 40, 41, 42, 43, 44, 45, 46, 47, 48], .code c74] ⟨[g0, g1, g2, g3, g4, g5, g6, g7, g8, g9, (.ptr y10), (Sl.hv y11), (.bool y12), g13, g14, g15, g16, g17, g18, g19, g20, g21, g22, g23, g24, g25, g26, g27, g28, g29, g30, g31, g32, g33, g34, g35, g36, g37, g38, g39, g40, g41, g42, g43, g44, g45, g46, g47, g48, g49, g50, g51, g52, g53, g54, g55, g56, g57, g58, g59, g60, g61, g62, g63, g64, g65, g66, g67, g68, g69, g70, g71, g72, g73, g74, g75, g76, g77, g78, g79, g80, g81, g82, g83, g84, g85, g86, g87, g88, g89, g90, g91, g92, g93, g94, g95, g96, g97, g98, g99, g100, g101, g102, g103, (.bool y104), g105, g106, g107, g108, g109, g110, g111, g112, g113, g114, g115, g116, g117], []⟩ S (fun v S1 => v = (.bool p.1) ∧ S1 = p.2) := by
  unfold J10 at h
  refine q_op (dst := some 105) rfl (fun _ ho => ok_move ho (.tmp rfl)) ?_
  try dsimp only [HAct.put, List.set_cons_zero, List.set_cons_succ]
  rcases ifc h with ⟨hc34, h⟩ | ⟨hc34, h⟩
  · refine q_op_g (t := 105) (dst := some 106) rfl rfl rfl hc34 (fun _ ho => ok_move ho (.tmp rfl)) ?_
    obtain ⟨p35, hp35, h⟩ := bindo h
    refine q_call_g (t := 105) (dst := some 107) rfl rfl rfl hc34 (.func _) (.cons (.tmp rfl) Evs.nil) (HInv.static sendq_Queue_Over.at_ sendq_Queue_Over.body (sendq_Queue_Over.snd  hp35)) ?_
    rintro _ _ ⟨rfl, rfl⟩
    refine q_op_g (t := 105) (dst := some 108) rfl rfl rfl hc34 (fun _ ho => ok_not ho (.tmp rfl)) ?_
    refine q_op (dst := some 109) rfl (fun _ ho => ok_pick_tt ho (.tmp rfl) hc34 (.tmp rfl)) ?_
    try dsimp only [HAct.put, List.set_cons_zero, List.set_cons_succ]
    try dsimp only [HAct.put, List.set_cons_zero, List.set_cons_succ]
    exact J11_snd hD hH h
  · refine q_skip (dst := some 106) (t := 105) rfl rfl rfl (bfalse hc34) ?_
    refine q_skip (dst := some 107) (t := 105) rfl rfl rfl (bfalse hc34) ?_
    refine q_skip (dst := some 108) (t := 105) rfl rfl rfl (bfalse hc34) ?_
    refine q_op (dst := some 109) rfl (fun _ ho => ok_pick_ff ho (.tmp rfl) (bfalse hc34) (.bool _)) ?_
    try dsimp only [HAct.put, List.set_cons_zero, List.set_cons_succ]
    try dsimp only [HAct.put, List.set_cons_zero, List.set_cons_succ]
    exact J11_snd hD hH h
def J9 (D : Dp) (H : Hd) (k : Nat) (y10 : (Option HA)) (y11 : Sl) (y12 : Bool) (y99 : Bool) (S : HS) : Option ((Bool) × HS) :=
  (if y99 = true then
  (Option.bind (sendq_Queue_Sent.f y10 S) fun p33 =>
  J10 D H k y10 y11 y12 (decide (p33.1 = 0)) p33.2) else
  J10 D H k y10 y11 y12 false S)
theorem J9_snd {D : Dp} {H : Hd} {k : Nat} (hD : DSound Try.prog base W0 D) (hH : HSound Try.prog base W0 β0 H)  {y10 : (Option HA)} {y11 : Sl} {y12 : Bool} {y99 : Bool} {S : HS} {p : (Bool) × HS} {g0 g1 g2 g3 g4 g5 g6 g7 g8 g9 g13 g14 g15 g16 g17 g18 g19 g20 g21 g22 g23 g24 g25 g26 g27 g28 g29 g30 g31 g32 g33 g34 g35 g36 g37 g38 g39 g40 g41 g42 g43 g44 g45 g46 g47 g48 g49 g50 g51 g52 g53 g54 g55 g56 g57 g58 g59 g60 g61 g62 g63 g64 g65 g66 g67 g68 g69 g70 g71 g72 g73 g74 g75 g76 g77 g78 g79 g80 g81 g82 g83 g84 g85 g86 g87 g88 g89 g90 g91 g92 g93 g94 g95 g96 g97 g98 g100 g101 g102 g103 g104 g105 g106 g107 g108 g109 g110 g111 g112 g113 g114 g115 g116 g117 : HV} (h : J9 D H k y10 y11 y12 y99 S = some p) : HRun Try.prog base W0 β0 6 none [.inRegion r73 [30, 31, 32, 33, 34, 35, 36, 37, 38, 39, 40, 41, 42, 43, 44, 45, 46, 47, 48], .code c74] ⟨[g0, g1, g2, g3, g4, g5, g6, g7, g8, g9, (.ptr y10), (Sl.hv y11), (.bool y12), g13, g14, g15, g16, g17, g18, g19, g20, g21, g22, g23, g24, g25, g26, g27, g28, g29, g30, g31, g32, g33, g34, g35, g36, g37, g38, g39, g40, g41, g42, g43, g44, g45, g46, g47, g48, g49, g50, g51, g52, g53, g54, g55, g56, g57, g58, g59, g60, g61, g62, g63, g64, g65, g66, g67, g68, g69, g70, g71, g72, g73, g74, g75, g76, g77, g78, g79, g80, g81, g82, g83, g84, g85, g86, g87, g88, g89, g90, g91, g92, g93, g94, g95, g96, g97, g98, (.bool y99), g100, g101, g102, g103, g104, g105, g106, g107, g108, g109, g110, g111, g112, g113, g114, g115, g116, g117], []⟩ S (fun v S1 => v = (.bool p.1) ∧ S1 = p.2) := by
  unfold J9 at h
  refine q_op (dst := some 100) rfl (fun _ ho => ok_move ho (.tmp rfl)) ?_
  rcases ifc h with ⟨hc32, h⟩ | ⟨hc32, h⟩
  · refine q_op_g (t := 100) (dst := some 101) rfl rfl rfl hc32 (fun _ ho => ok_move ho (.tmp rfl)) ?_
    try dsimp only [HAct.put, List.set_cons_zero, List.set_cons_succ]
    obtain ⟨p33, hp33, h⟩ := bindo h
    refine q_call_g (t := 100) (dst := some 102) rfl rfl rfl hc32 (.func _) (.cons (.tmp rfl) Evs.nil) (HInv.static sendq_Queue_Sent.at_ sendq_Queue_Sent.body (sendq_Queue_Sent.snd  hp33)) ?_
    rintro _ _ ⟨rfl, rfl⟩
    refine q_op_g (t := 100) (dst := some 103) rfl rfl rfl hc32 (fun _ ho => ok_ibin ho (.tmp rfl) (.int _ _) rfl) ?_
    refine q_op (dst := some 104) rfl (fun _ ho => ok_pick_tt ho (.tmp rfl) hc32 (.tmp rfl)) ?_
    try dsimp only [HAct.put, List.set_cons_zero, List.set_cons_succ]
    exact J10_snd hD hH h
  · refine q_skip (dst := some 101) (t := 100) rfl rfl rfl (bfalse hc32) ?_
    try dsimp only [HAct.put, List.set_cons_zero, List.set_cons_succ]
    refine q_skip (dst := some 102) (t := 100) rfl rfl rfl (bfalse hc32) ?_
    refine q_skip (dst := some 103) (t := 100) rfl rfl rfl (bfalse hc32) ?_
    refine q_op (dst := some 104) rfl (fun _ ho => ok_pick_ff ho (.tmp rfl) (bfalse hc32) (.bool _)) ?_
    try dsimp only [HAct.put, List.set_cons_zero, List.set_cons_succ]
    exact J10_snd hD hH h
def J8 (D : Dp) (H : Hd) (k : Nat) (y10 : (Option HA)) (y11 : Sl) (y12 : Bool) (y94 : Bool) (S : HS) : Option ((Bool) × HS) :=
  (if y94 = true then
  (Option.bind (sendq_Queue_Len.f y10 S) fun p31 =>
  J9 D H k y10 y11 y12 (decide (p31.1 = 0)) p31.2) else
  J9 D H k y10 y11 y12 false S)
theorem J8_snd {D : Dp} {H : Hd} {k : Nat} (hD : DSound Try.prog base W0 D) (hH : HSound Try.prog base W0 β0 H)  {y10 : (Option HA)} {y11 : Sl} {y12 : Bool} {y94 : Bool} {S : HS} {p : (Bool) × HS} {g0 g1 g2 g3 g4 g5 g6 g7 g8 g9 g13 g14 g15 g16 g17 g18 g19 g20 g21 g22 g23 g24 g25 g26 g27 g28 g29 g30 g31 g32 g33 g34 g35 g36 g37 g38 g39 g40 g41 g42 g43 g44 g45 g46 g47 g48 g49 g50 g51 g52 g53 g54 g55 g56 g57 g58 g59 g60 g61 g62 g63 g64 g65 g66 g67 g68 g69 g70 g71 g72 g73 g74 g75 g76 g77 g78 g79 g80 g81 g82 g83 g84 g85 g86 g87 g88 g89 g90 g91 g92 g93 g95 g96 g97 g98 g99 g100 g101 g102 g103 g104 g105 g106 g107 g108 g109 g110 g111 g112 g113 g114 g115 g116 g117 : HV} (h : J8 D H k y10 y11 y12 y94 S = some p) : HRun Try.prog base W0 β0 6 none [.inRegion r73 [25, 26, 27, 28, 29, 30, 31, 32, 33, 34, 35, 36, 37, 38, 39, 40, 41, 42, 43, 44, 45, 46, 47, 48], .code c74] ⟨[g0, g1, g2, g3, g4, g5, g6, g7, g8, g9, (.ptr y10), (Sl.hv y11), (.bool y12), g13, g14, g15, g16, g17, g18, g19, g20, g21, g22, g23, g24, g25, g26, g27, g28, g29, g30, g31, g32, g33, g34, g35, g36, g37, g38, g39, g40, g41, g42, g43, g44, g45, g46, g47, g48, g49, g50, g51, g52, g53, g54, g55, g56, g57, g58, g59, g60, g61, g62, g63, g64, g65, g66, g67, g68, g69, g70, g71, g72, g73, g74, g75, g76, g77, g78, g79, g80, g81, g82, g83, g84, g85, g86, g87, g88, g89, g90, g91, g92, g93, (.bool y94), g95, g96, g97, g98, g99, g100, g101, g102, g103, g104, g105, g106, g107, g108, g109, g110, g111, g112, g113, g114, g115, g116, g117], []⟩ S (fun v S1 => v = (.bool p.1) ∧ S1 = p.2) := by
  unfold J8 at h
  refine q_op (dst := some 95) rfl (fun _ ho => ok_move ho (.tmp rfl)) ?_
  rcases ifc h with ⟨hc30, h⟩ | ⟨hc30, h⟩
  · refine q_op_g (t := 95) (dst := some 96) rfl rfl rfl hc30 (fun _ ho => ok_move ho (.tmp rfl)) ?_
    obtain ⟨p31, hp31, h⟩ := bindo h
    refine q_call_g (t := 95) (dst := some 97) rfl rfl rfl hc30 (.func _) (.cons (.tmp rfl) Evs.nil) (HInv.static sendq_Queue_Len.at_ sendq_Queue_Len.body (sendq_Queue_Len.snd  hp31)) ?_
    rintro _ _ ⟨rfl, rfl⟩
    try dsimp only [HAct.put, List.set_cons_zero, List.set_cons_succ]
    refine q_op_g (t := 95) (dst := some 98) rfl rfl rfl hc30 (fun _ ho => ok_ibin ho (.tmp rfl) (.int _ _) rfl) ?_
    refine q_op (dst := some 99) rfl (fun _ ho => ok_pick_tt ho (.tmp rfl) hc30 (.tmp rfl)) ?_
    try dsimp only [HAct.put, List.set_cons_zero, List.set_cons_succ]
    exact J9_snd hD hH h
  · refine q_skip (dst := some 96) (t := 95) rfl rfl rfl (bfalse hc30) ?_
    refine q_skip (dst := some 97) (t := 95) rfl rfl rfl (bfalse hc30) ?_
    try dsimp only [HAct.put, List.set_cons_zero, List.set_cons_succ]
    refine q_skip (dst := some 98) (t := 95) rfl rfl rfl (bfalse hc30) ?_
    refine q_op (dst := some 99) rfl (fun _ ho => ok_pick_ff ho (.tmp rfl) (bfalse hc30) (.bool _)) ?_
    try dsimp only [HAct.put, List.set_cons_zero, List.set_cons_succ]
    exact J9_snd hD hH h
def J7 (D : Dp) (H : Hd) (k : Nat) (y10 : (Option HA)) (y11 : Sl) (y12 : Bool) (y88 : Bool) (S : HS) : Option ((Bool) × HS) :=
  (if y88 = true then
  (Option.bind (sendq_Queue_Drain.f k y10 9 S) fun p29 =>
  J8 D H k y10 y11 y12 (decide ((Sl.len p29.1 : Int) = 0)) p29.2) else
  J8 D H k y10 y11 y12 false S)
theorem J7_snd {D : Dp} {H : Hd} {k : Nat} (hD : DSound Try.prog base W0 D) (hH : HSound Try.prog base W0 β0 H)  {y10 : (Option HA)} {y11 : Sl} {y12 : Bool} {y88 : Bool} {S : HS} {p : (Bool) × HS} {g0 g1 g2 g3 g4 g5 g6 g7 g8 g9 g13 g14 g15 g16 g17 g18 g19 g20 g21 g22 g23 g24 g25 g26 g27 g28 g29 g30 g31 g32 g33 g34 g35 g36 g37 g38 g39 g40 g41 g42 g43 g44 g45 g46 g47 g48 g49 g50 g51 g52 g53 g54 g55 g56 g57 g58 g59 g60 g61 g62 g63 g64 g65 g66 g67 g68 g69 g70 g71 g72 g73 g74 g75 g76 g77 g78 g79 g80 g81 g82 g83 g84 g85 g86 g87 g89 g90 g91 g92 g93 g94 g95 g96 g97 g98 g99 g100 g101 g102 g103 g104 g105 g106 g107 g108 g109 g110 g111 g112 g113 g114 g115 g116 g117 : HV} (h : J7 D H k y10 y11 y12 y88 S = some p) : HRun Try.prog base W0 β0 6 none [.inRegion r73 [19, 20, 21, 22, 23, 24, 25, 26, 27, 28, 29, 30, 31, 32, 33, 34, 35, 36, 37, 38, 39, 40, 41, 42, 43, 44, 45, 46, 47, 48], .code c74] ⟨[g0, g1, g2, g3, g4, g5, g6, g7, g8, g9, (.ptr y10), (Sl.hv y11), (.bool y12), g13, g14, g15, g16, g17, g18, g19, g20, g21, g22, g23, g24, g25, g26, g27, g28, g29, g30, g31, g32, g33, g34, g35, g36, g37, g38, g39, g40, g41, g42, g43, g44, g45, g46, g47, g48, g49, g50, g51, g52, g53, g54, g55, g56, g57, g58, g59, g60, g61, g62, g63, g64, g65, g66, g67, g68, g69, g70, g71, g72, g73, g74, g75, g76, g77, g78, g79, g80, g81, g82, g83, g84, g85, g86, g87, (.bool y88), g89, g90, g91, g92, g93, g94, g95, g96, g97, g98, g99, g100, g101, g102, g103, g104, g105, g106, g107, g108, g109, g110, g111, g112, g113, g114, g115, g116, g117], []⟩ S (fun v S1 => v = (.bool p.1) ∧ S1 = p.2) := by
  unfold J7 at h
  refine q_op (dst := some 89) rfl (fun _ ho => ok_move ho (.tmp rfl)) ?_
  try dsimp only [HAct.put, List.set_cons_zero, List.set_cons_succ]
  rcases ifc h with ⟨hc28, h⟩ | ⟨hc28, h⟩
  · refine q_op_g (t := 89) (dst := some 90) rfl rfl rfl hc28 (fun _ ho => ok_move ho (.tmp rfl)) ?_
    obtain ⟨p29, hp29, h⟩ := bindo h
    refine q_call_g (t := 89) (dst := some 91) rfl rfl rfl hc28 (.func _) (.cons (.tmp rfl) (.cons (.int _ _) Evs.nil)) (HInv.static sendq_Queue_Drain.at_ sendq_Queue_Drain.body (sendq_Queue_Drain.snd  hp29)) ?_
    rintro _ _ ⟨rfl, rfl⟩
    refine q_op_g (t := 89) (dst := some 92) rfl rfl rfl hc28 (fun _ ho => ok_len_sl (q := Sl.a p29.1) (n := Sl.len p29.1) (z := Sl.cap p29.1) ho rfl tu31 (.tmp rfl)) ?_
    refine q_op_g (t := 89) (dst := some 93) rfl rfl rfl hc28 (fun _ ho => ok_ibin ho (.tmp rfl) (.int _ _) rfl) ?_
    try dsimp only [HAct.put, List.set_cons_zero, List.set_cons_succ]
    refine q_op (dst := some 94) rfl (fun _ ho => ok_pick_tt ho (.tmp rfl) hc28 (.tmp rfl)) ?_
    try dsimp only [HAct.put, List.set_cons_zero, List.set_cons_succ]
    exact J8_snd hD hH h
  · refine q_skip (dst := some 90) (t := 89) rfl rfl rfl (bfalse hc28) ?_
    refine q_skip (dst := some 91) (t := 89) rfl rfl rfl (bfalse hc28) ?_
    refine q_skip (dst := some 92) (t := 89) rfl rfl rfl (bfalse hc28) ?_
    refine q_skip (dst := some 93) (t := 89) rfl rfl rfl (bfalse hc28) ?_
    try dsimp only [HAct.put, List.set_cons_zero, List.set_cons_succ]
    refine q_op (dst := some 94) rfl (fun _ ho => ok_pick_ff ho (.tmp rfl) (bfalse hc28) (.bool _)) ?_
    try dsimp only [HAct.put, List.set_cons_zero, List.set_cons_succ]
    exact J8_snd hD hH h
def J6 (D : Dp) (H : Hd) (k : Nat) (y1 : (List UInt8)) (y10 : (Option HA)) (y11 : Sl) (y12 : Bool) (y82 : Bool) (S : HS) : Option ((Bool) × HS) :=
  (if y82 = true then
  (Option.bind (sendq_Queue_Push.f k y10 y1 S) fun p27 =>
  J7 D H k y10 y11 y12 (!p27.1) p27.2) else
  J7 D H k y10 y11 y12 false S)
theorem J6_snd {D : Dp} {H : Hd} {k : Nat} (hD : DSound Try.prog base W0 D) (hH : HSound Try.prog base W0 β0 H)  {y1 : (List UInt8)} {y10 : (Option HA)} {y11 : Sl} {y12 : Bool} {y82 : Bool} {S : HS} {p : (Bool) × HS} {g0 g2 g3 g4 g5 g6 g7 g8 g9 g13 g14 g15 g16 g17 g18 g19 g20 g21 g22 g23 g24 g25 g26 g27 g28 g29 g30 g31 g32 g33 g34 g35 g36 g37 g38 g39 g40 g41 g42 g43 g44 g45 g46 g47 g48 g49 g50 g51 g52 g53 g54 g55 g56 g57 g58 g59 g60 g61 g62 g63 g64 g65 g66 g67 g68 g69 g70 g71 g72 g73 g74 g75 g76 g77 g78 g79 g80 g81 g83 g84 g85 g86 g87 g88 g89 g90 g91 g92 g93 g94 g95 g96 g97 g98 g99 g100 g101 g102 g103 g104 g105 g106 g107 g108 g109 g110 g111 g112 g113 g114 g115 g116 g117 : HV} (h : J6 D H k y1 y10 y11 y12 y82 S = some p) : HRun Try.prog base W0 β0 6 none [.inRegion r73 [13, 14, 15, 16, 17, 18, 19, 20, 21, 22, 23, 24, 25, 26, 27, 28, 29, 30, 31, 32, 33, 34, 35, 36, 37, 38, 39, 40, 41, 42, 43, 44, 45, 46, 47, 48], .code c74] ⟨[g0, (.str y1), g2, g3, g4, g5, g6, g7, g8, g9, (.ptr y10), (Sl.hv y11), (.bool y12), g13, g14, g15, g16, g17, g18, g19, g20, g21, g22, g23, g24, g25, g26, g27, g28, g29, g30, g31, g32, g33, g34, g35, g36, g37, g38, g39, g40, g41, g42, g43, g44, g45, g46, g47, g48, g49, g50, g51, g52, g53, g54, g55, g56, g57, g58, g59, g60, g61, g62, g63, g64, g65, g66, g67, g68, g69, g70, g71, g72, g73, g74, g75, g76, g77, g78, g79, g80, g81, (.bool y82), g83, g84, g85, g86, g87, g88, g89, g90, g91, g92, g93, g94, g95, g96, g97, g98, g99, g100, g101, g102, g103, g104, g105, g106, g107, g108, g109, g110, g111, g112, g113, g114, g115, g116, g117], []⟩ S (fun v S1 => v = (.bool p.1) ∧ S1 = p.2) := by
  unfold J6 at h
  refine q_op (dst := some 83) rfl (fun _ ho => ok_move ho (.tmp rfl)) ?_
  rcases ifc h with ⟨hc26, h⟩ | ⟨hc26, h⟩
  · refine q_op_g (t := 83) (dst := some 84) rfl rfl rfl hc26 (fun _ ho => ok_move ho (.tmp rfl)) ?_
    refine q_op_g (t := 83) (dst := some 85) rfl rfl rfl hc26 (fun _ ho => ok_move ho (.tmp rfl)) ?_
    try dsimp only [HAct.put, List.set_cons_zero, List.set_cons_succ]
    obtain ⟨p27, hp27, h⟩ := bindo h
    refine q_call_g (t := 83) (dst := some 86) rfl rfl rfl hc26 (.func _) (.cons (.tmp rfl) (.cons (.tmp rfl) Evs.nil)) (HInv.static sendq_Queue_Push.at_ sendq_Queue_Push.body (sendq_Queue_Push.snd  hp27)) ?_
    rintro _ _ ⟨rfl, rfl⟩
    refine q_op_g (t := 83) (dst := some 87) rfl rfl rfl hc26 (fun _ ho => ok_not ho (.tmp rfl)) ?_
    refine q_op (dst := some 88) rfl (fun _ ho => ok_pick_tt ho (.tmp rfl) hc26 (.tmp rfl)) ?_
    try dsimp only [HAct.put, List.set_cons_zero, List.set_cons_succ]
    exact J7_snd hD hH h
  · refine q_skip (dst := some 84) (t := 83) rfl rfl rfl (bfalse hc26) ?_
    refine q_skip (dst := some 85) (t := 83) rfl rfl rfl (bfalse hc26) ?_
    try dsimp only [HAct.put, List.set_cons_zero, List.set_cons_succ]
    refine q_skip (dst := some 86) (t := 83) rfl rfl rfl (bfalse hc26) ?_
    refine q_skip (dst := some 87) (t := 83) rfl rfl rfl (bfalse hc26) ?_
    refine q_op (dst := some 88) rfl (fun _ ho => ok_pick_ff ho (.tmp rfl) (bfalse hc26) (.bool _)) ?_
    try dsimp only [HAct.put, List.set_cons_zero, List.set_cons_succ]
    exact J7_snd hD hH h
def J5 (D : Dp) (H : Hd) (k : Nat) (y1 : (List UInt8)) (y5 : (Option HA)) (y10 : (Option HA)) (y11 : Sl) (y12 : Bool) (y77 : Bool) (S : HS) : Option ((Bool) × HS) :=
  (if y77 = true then
  (Option.bind (sendq_Queue_Len.f y5 S) fun p25 =>
  J6 D H k y1 y10 y11 y12 (decide (p25.1 = 0)) p25.2) else
  J6 D H k y1 y10 y11 y12 false S)
theorem J5_snd {D : Dp} {H : Hd} {k : Nat} (hD : DSound Try.prog base W0 D) (hH : HSound Try.prog base W0 β0 H)  {y1 : (List UInt8)} {y5 : (Option HA)} {y10 : (Option HA)} {y11 : Sl} {y12 : Bool} {y77 : Bool} {S : HS} {p : (Bool) × HS} {g0 g2 g3 g4 g6 g7 g8 g9 g13 g14 g15 g16 g17 g18 g19 g20 g21 g22 g23 g24 g25 g26 g27 g28 g29 g30 g31 g32 g33 g34 g35 g36 g37 g38 g39 g40 g41 g42 g43 g44 g45 g46 g47 g48 g49 g50 g51 g52 g53 g54 g55 g56 g57 g58 g59 g60 g61 g62 g63 g64 g65 g66 g67 g68 g69 g70 g71 g72 g73 g74 g75 g76 g78 g79 g80 g81 g82 g83 g84 g85 g86 g87 g88 g89 g90 g91 g92 g93 g94 g95 g96 g97 g98 g99 g100 g101 g102 g103 g104 g105 g106 g107 g108 g109 g110 g111 g112 g113 g114 g115 g116 g117 : HV} (h : J5 D H k y1 y5 y10 y11 y12 y77 S = some p) : HRun Try.prog base W0 β0 6 none [.inRegion r73 [8, 9, 10, 11, 12, 13, 14, 15, 16, 17, 18, 19, 20, 21, 22, 23, 24, 25, 26, 27, 28, 29, 30, 31, 32, 33, 34, 35, 36, 37, 38, 39, 40, 41, 42, 43, 44, 45, 46, 47, 48], .code c74] ⟨[g0, (.str y1), g2, g3, g4, (.ptr y5), g6, g7, g8, g9, (.ptr y10), (Sl.hv y11), (.bool y12), g13, g14, g15, g16, g17, g18, g19, g20, g21, g22, g23, g24, g25, g26, g27, g28, g29, g30, g31, g32, g33, g34, g35, g36, g37, g38, g39, g40, g41, g42, g43, g44, g45, g46, g47, g48, g49, g50, g51, g52, g53, g54, g55, g56, g57, g58, g59, g60, g61, g62, g63, g64, g65, g66, g67, g68, g69, g70, g71, g72, g73, g74, g75, g76, (.bool y77), g78, g79, g80, g81, g82, g83, g84, g85, g86, g87, g88, g89, g90, g91, g92, g93, g94, g95, g96, g97, g98, g99, g100, g101, g102, g103, g104, g105, g106, g107, g108, g109, g110, g111, g112, g113, g114, g115, g116, g117], []⟩ S (fun v S1 => v = (.bool p.1) ∧ S1 = p.2) := by
  unfold J5 at h
  refine q_op (dst := some 78) rfl (fun _ ho => ok_move ho (.tmp rfl)) ?_
  rcases ifc h with ⟨hc24, h⟩ | ⟨hc24, h⟩
  · refine q_op_g (t := 78) (dst := some 79) rfl rfl rfl hc24 (fun _ ho => ok_move ho (.tmp rfl)) ?_
    obtain ⟨p25, hp25, h⟩ := bindo h
    refine q_call_g (t := 78) (dst := some 80) rfl rfl rfl hc24 (.func _) (.cons (.tmp rfl) Evs.nil) (HInv.static sendq_Queue_Len.at_ sendq_Queue_Len.body (sendq_Queue_Len.snd  hp25)) ?_
    rintro _ _ ⟨rfl, rfl⟩
    refine q_op_g (t := 78) (dst := some 81) rfl rfl rfl hc24 (fun _ ho => ok_ibin ho (.tmp rfl) (.int _ _) rfl) ?_
    try dsimp only [HAct.put, List.set_cons_zero, List.set_cons_succ]
    refine q_op (dst := some 82) rfl (fun _ ho => ok_pick_tt ho (.tmp rfl) hc24 (.tmp rfl)) ?_
    try dsimp only [HAct.put, List.set_cons_zero, List.set_cons_succ]
    exact J6_snd hD hH h
  · refine q_skip (dst := some 79) (t := 78) rfl rfl rfl (bfalse hc24) ?_
    refine q_skip (dst := some 80) (t := 78) rfl rfl rfl (bfalse hc24) ?_
    refine q_skip (dst := some 81) (t := 78) rfl rfl rfl (bfalse hc24) ?_
    try dsimp only [HAct.put, List.set_cons_zero, List.set_cons_succ]
    refine q_op (dst := some 82) rfl (fun _ ho => ok_pick_ff ho (.tmp rfl) (bfalse hc24) (.bool _)) ?_
    try dsimp only [HAct.put, List.set_cons_zero, List.set_cons_succ]
    exact J6_snd hD hH h
def J4 (D : Dp) (H : Hd) (k : Nat) (y1 : (List UInt8)) (y5 : (Option HA)) (y62 : Bool) (S : HS) : Option ((Bool) × HS) :=
  (if y62 = true then
  some (false, S) else
  (Option.bind (sendq_Queue_Drain.f k y5 512 S) fun p19 =>
  (Option.bind (rollcalllaw08_lines.f D H none 0 p19.2) fun p20 =>
  (Option.bind (sendq_Queue_Push.f k y5 y1 p20.2) fun p21 =>
  (if (!p21.1) = true then
  (Option.bind (sendq_Queue_Over.f y5 p21.2) fun p23 =>
  J5 D H k y1 y5 none p20.1.1 p20.1.2 p23.1 p23.2) else
  J5 D H k y1 y5 none p20.1.1 p20.1.2 false p21.2)))))
theorem J4_snd {D : Dp} {H : Hd} {k : Nat} (hD : DSound Try.prog base W0 D) (hH : HSound Try.prog base W0 β0 H)  {y1 : (List UInt8)} {y5 : (Option HA)} {y62 : Bool} {S : HS} {p : (Bool) × HS} {g0 g2 g3 g4 g6 g7 g8 g9 g10 g11 g12 g13 g14 g15 g16 g17 g18 g19 g20 g21 g22 g23 g24 g25 g26 g27 g28 g29 g30 g31 g32 g33 g34 g35 g36 g37 g38 g39 g40 g41 g42 g43 g44 g45 g46 g47 g48 g49 g50 g51 g52 g53 g54 g55 g56 g57 g58 g59 g60 g61 g63 g64 g65 g66 g67 g68 g69 g70 g71 g72 g73 g74 g75 g76 g77 g78 g79 g80 g81 g82 g83 g84 g85 g86 g87 g88 g89 g90 g91 g92 g93 g94 g95 g96 g97 g98 g99 g100 g101 g102 g103 g104 g105 g106 g107 g108 g109 g110 g111 g112 g113 g114 g115 g116 g117 : HV} (h : J4 D H k y1 y5 y62 S = some p) : HRun Try.prog base W0 β0 6 none [.code c61, .code c66] ⟨[g0, (.str y1), g2, g3, g4, (.ptr y5), g6, g7, g8, g9, g10, g11, g12, g13, g14, g15, g16, g17, g18, g19, g20, g21, g22, g23, g24, g25, g26, g27, g28, g29, g30, g31, g32, g33, g34, g35, g36, g37, g38, g39, g40, g41, g42, g43, g44, g45, g46, g47, g48, g49, g50, g51, g52, g53, g54, g55, g56, g57, g58, g59, g60, g61, (.bool y62), g63, g64, g65, g66, g67, g68, g69, g70, g71, g72, g73, g74, g75, g76, g77, g78, g79, g80, g81, g82, g83, g84, g85, g86, g87, g88, g89, g90, g91, g92, g93, g94, g95, g96, g97, g98, g99, g100, g101, g102, g103, g104, g105, g106, g107, g108, g109, g110, g111, g112, g113, g114, g115, g116, g117], []⟩ S (fun v S1 => v = (.bool p.1) ∧ S1 = p.2) := by
  unfold J4 at h
  rcases ifc h with ⟨hc18, h⟩ | ⟨hc18, h⟩
  · refine q_cond_t e61 (.tmp rfl) hc18 ?_
    refine q_seq e62 ?_
    refine q_region e63 rfl ?_
    refine q_op (dst := some 4) rfl (fun _ ho => ok_assign ho (.bool _)) ?_
    refine hr_region_end ?_
    try dsimp only [HAct.put, List.set_cons_zero, List.set_cons_succ]
    cases h
    exact q_ret e64 at_.at_ rfl (res1 rfl rfl) ⟨rfl, rfl⟩
  · refine q_cond_f e61 (.tmp rfl) (bfalse hc18) ?_
    refine q_skipc e65 ?_
    refine q_seq e66 ?_
    refine q_region e67 rfl ?_
    refine q_op (dst := some 63) rfl (fun _ ho => ok_move ho (.tmp rfl)) ?_
    obtain ⟨p19, hp19, h⟩ := bindo h
    refine q_call (dst := some 64) rfl (.func _) (.cons (.tmp rfl) (.cons (.int _ _) Evs.nil)) (HInv.static sendq_Queue_Drain.at_ sendq_Queue_Drain.body (sendq_Queue_Drain.snd  hp19)) ?_
    rintro _ _ ⟨rfl, rfl⟩
    refine hr_region_end ?_
    try dsimp only [HAct.put, List.set_cons_zero, List.set_cons_succ]
    refine q_seq e68 ?_
    refine q_region e69 rfl ?_
    refine q_op (dst := some 10) rfl (fun _ ho => ok_assign ho (.const fun _ => .ptrNil)) ?_
    refine hr_region_end ?_
    try dsimp only [HAct.put, List.set_cons_zero, List.set_cons_succ]
    refine q_seq e70 ?_
    refine q_region e71 rfl ?_
    refine q_op (dst := some 66) rfl (fun _ ho => ok_move ho (.tmp rfl)) ?_
    obtain ⟨p20, hp20, h⟩ := bindo h
    refine q_call (dst := some 67) rfl (.func _) (.cons (.tmp rfl) (.cons (.int _ _) Evs.nil)) (HInv.static rollcalllaw08_lines.at_ rollcalllaw08_lines.body (rollcalllaw08_lines.snd hD hH hp20)) ?_
    rintro _ _ ⟨rfl, rfl⟩
    refine q_op (dst := some 65) rfl (fun _ ho => ok_move ho (.tmp rfl)) ?_
    refine q_op (dst := some 68) rfl (fun _ ho => ok_extract ho (.tmp rfl) rfl) ?_
    try dsimp only [HAct.put, List.set_cons_zero, List.set_cons_succ]
    refine q_op (dst := some 69) rfl (fun _ ho => ok_extract ho (.tmp rfl) rfl) ?_
    refine q_op (dst := some 11) rfl (fun _ ho => ok_assign ho (.tmp rfl)) ?_
    refine q_op (dst := some 12) rfl (fun _ ho => ok_assign ho (.tmp rfl)) ?_
    refine hr_region_end ?_
    try dsimp only [HAct.put, List.set_cons_zero, List.set_cons_succ]
    refine q_seq e72 ?_
    refine q_region e73 rfl ?_
    refine q_op (dst := some 70) rfl (fun _ ho => ok_move ho (.tmp rfl)) ?_
    refine q_op (dst := some 71) rfl (fun _ ho => ok_move ho (.tmp rfl)) ?_
    obtain ⟨p21, hp21, h⟩ := bindo h
    refine q_call (dst := some 72) rfl (.func _) (.cons (.tmp rfl) (.cons (.tmp rfl) Evs.nil)) (HInv.static sendq_Queue_Push.at_ sendq_Queue_Push.body (sendq_Queue_Push.snd  hp21)) ?_
    rintro _ _ ⟨rfl, rfl⟩
    refine q_op (dst := some 73) rfl (fun _ ho => ok_not ho (.tmp rfl)) ?_
    try dsimp only [HAct.put, List.set_cons_zero, List.set_cons_succ]
    refine q_op (dst := some 74) rfl (fun _ ho => ok_move ho (.tmp rfl)) ?_
    rcases ifc h with ⟨hc22, h⟩ | ⟨hc22, h⟩
    · refine q_op_g (t := 74) (dst := some 75) rfl rfl rfl hc22 (fun _ ho => ok_move ho (.tmp rfl)) ?_
      obtain ⟨p23, hp23, h⟩ := bindo h
      refine q_call_g (t := 74) (dst := some 76) rfl rfl rfl hc22 (.func _) (.cons (.tmp rfl) Evs.nil) (HInv.static sendq_Queue_Over.at_ sendq_Queue_Over.body (sendq_Queue_Over.snd  hp23)) ?_
      rintro _ _ ⟨rfl, rfl⟩
      refine q_op (dst := some 77) rfl (fun _ ho => ok_pick_tt ho (.tmp rfl) hc22 (.tmp rfl)) ?_
      try dsimp only [HAct.put, List.set_cons_zero, List.set_cons_succ]
      try dsimp only [HAct.put, List.set_cons_zero, List.set_cons_succ]
      exact J5_snd hD hH h
    · refine q_skip (dst := some 75) (t := 74) rfl rfl rfl (bfalse hc22) ?_
      refine q_skip (dst := some 76) (t := 74) rfl rfl rfl (bfalse hc22) ?_
      refine q_op (dst := some 77) rfl (fun _ ho => ok_pick_ff ho (.tmp rfl) (bfalse hc22) (.bool _)) ?_
      try dsimp only [HAct.put, List.set_cons_zero, List.set_cons_succ]
      try dsimp only [HAct.put, List.set_cons_zero, List.set_cons_succ]
      exact J5_snd hD hH h
def J3 (D : Dp) (H : Hd) (k : Nat) (y1 : (List UInt8)) (y5 : (Option HA)) (y7 : Sl) (y53 : Bool) (S : HS) : Option ((Bool) × HS) :=
  (if y53 = true then
  J4 D H k y1 y5 true S else
  (Option.bind (sendq_Queue_Len.f y5 S) fun p38 =>
  J4 D H k y1 y5 (decide ((w64 (512 - p38.1)) ≥ (w64 ((Sl.len y7 : Int) + 2)))) p38.2))
theorem J3_snd {D : Dp} {H : Hd} {k : Nat} (hD : DSound Try.prog base W0 D) (hH : HSound Try.prog base W0 β0 H)  {y1 : (List UInt8)} {y5 : (Option HA)} {y7 : Sl} {y53 : Bool} {S : HS} {p : (Bool) × HS} {g0 g2 g3 g4 g6 g8 g9 g10 g11 g12 g13 g14 g15 g16 g17 g18 g19 g20 g21 g22 g23 g24 g25 g26 g27 g28 g29 g30 g31 g32 g33 g34 g35 g36 g37 g38 g39 g40 g41 g42 g43 g44 g45 g46 g47 g48 g49 g50 g51 g52 g54 g55 g56 g57 g58 g59 g60 g61 g62 g63 g64 g65 g66 g67 g68 g69 g70 g71 g72 g73 g74 g75 g76 g77 g78 g79 g80 g81 g82 g83 g84 g85 g86 g87 g88 g89 g90 g91 g92 g93 g94 g95 g96 g97 g98 g99 g100 g101 g102 g103 g104 g105 g106 g107 g108 g109 g110 g111 g112 g113 g114 g115 g116 g117 : HV} (h : J3 D H k y1 y5 y7 y53 S = some p) : HRun Try.prog base W0 β0 6 none [.inRegion r60 [8, 9, 10, 11, 12, 13, 14, 15, 16], .code c61, .code c66] ⟨[g0, (.str y1), g2, g3, g4, (.ptr y5), g6, (Sl.hv y7), g8, g9, g10, g11, g12, g13, g14, g15, g16, g17, g18, g19, g20, g21, g22, g23, g24, g25, g26, g27, g28, g29, g30, g31, g32, g33, g34, g35, g36, g37, g38, g39, g40, g41, g42, g43, g44, g45, g46, g47, g48, g49, g50, g51, g52, (.bool y53), g54, g55, g56, g57, g58, g59, g60, g61, g62, g63, g64, g65, g66, g67, g68, g69, g70, g71, g72, g73, g74, g75, g76, g77, g78, g79, g80, g81, g82, g83, g84, g85, g86, g87, g88, g89, g90, g91, g92, g93, g94, g95, g96, g97, g98, g99, g100, g101, g102, g103, g104, g105, g106, g107, g108, g109, g110, g111, g112, g113, g114, g115, g116, g117], []⟩ S (fun v S1 => v = (.bool p.1) ∧ S1 = p.2) := by
  unfold J3 at h
  refine q_op (dst := some 54) rfl (fun _ ho => ok_move ho (.tmp rfl)) ?_
  rcases ifc h with ⟨hc17, h⟩ | ⟨hc17, h⟩
  · refine q_skip (dst := some 55) (t := 54) rfl rfl rfl hc17 ?_
    refine q_skip (dst := some 56) (t := 54) rfl rfl rfl hc17 ?_
    refine q_skip (dst := some 57) (t := 54) rfl rfl rfl hc17 ?_
    try dsimp only [HAct.put, List.set_cons_zero, List.set_cons_succ]
    refine q_skip (dst := some 58) (t := 54) rfl rfl rfl hc17 ?_
    refine q_skip (dst := some 59) (t := 54) rfl rfl rfl hc17 ?_
    refine q_skip (dst := some 60) (t := 54) rfl rfl rfl hc17 ?_
    refine q_skip (dst := some 61) (t := 54) rfl rfl rfl hc17 ?_
    try dsimp only [HAct.put, List.set_cons_zero, List.set_cons_succ]
    refine q_op (dst := some 62) rfl (fun _ ho => ok_pick_tt ho (.tmp rfl) hc17 (.bool _)) ?_
    refine hr_region_end ?_
    try dsimp only [HAct.put, List.set_cons_zero, List.set_cons_succ]
    try dsimp only [HAct.put, List.set_cons_zero, List.set_cons_succ]
    exact J4_snd hD hH h
  · refine q_op_g (t := 54) (dst := some 55) rfl rfl rfl (bfalse hc17) (fun _ ho => ok_move ho (.tmp rfl)) ?_
    obtain ⟨p38, hp38, h⟩ := bindo h
    refine q_call_g (t := 54) (dst := some 56) rfl rfl rfl (bfalse hc17) (.func _) (.cons (.tmp rfl) Evs.nil) (HInv.static sendq_Queue_Len.at_ sendq_Queue_Len.body (sendq_Queue_Len.snd  hp38)) ?_
    rintro _ _ ⟨rfl, rfl⟩
    refine q_op_g (t := 54) (dst := some 57) rfl rfl rfl (bfalse hc17) (fun _ ho => ok_ibin ho (.int _ _) (.tmp rfl) rfl) ?_
    try dsimp only [HAct.put, List.set_cons_zero, List.set_cons_succ]
    refine q_op_g (t := 54) (dst := some 58) rfl rfl rfl (bfalse hc17) (fun _ ho => ok_move ho (.tmp rfl)) ?_
    refine q_op_g (t := 54) (dst := some 59) rfl rfl rfl (bfalse hc17) (fun _ ho => ok_len_sl (q := Sl.a y7) (n := Sl.len y7) (z := Sl.cap y7) ho rfl tu31 (.tmp rfl)) ?_
    refine q_op_g (t := 54) (dst := some 60) rfl rfl rfl (bfalse hc17) (fun _ ho => ok_ibin ho (.tmp rfl) (.int _ _) rfl) ?_
    refine q_op_g (t := 54) (dst := some 61) rfl rfl rfl (bfalse hc17) (fun _ ho => ok_ibin ho (.tmp rfl) (.tmp rfl) rfl) ?_
    try dsimp only [HAct.put, List.set_cons_zero, List.set_cons_succ]
    refine q_op (dst := some 62) rfl (fun _ ho => ok_pick_ff ho (.tmp rfl) (bfalse hc17) (.tmp rfl)) ?_
    refine hr_region_end ?_
    try dsimp only [HAct.put, List.set_cons_zero, List.set_cons_succ]
    try dsimp only [HAct.put, List.set_cons_zero, List.set_cons_succ]
    exact J4_snd hD hH h
def J2 (D : Dp) (H : Hd) (k : Nat) (rec0 : (List UInt8) → (Option HA) → Sl → Int → HS → Option ((Bool) × HS)) (y1 : (List UInt8)) (y5 : (Option HA)) (y7 : Sl) (y9 : Int) (y41 : Bool) (S : HS) : Option ((Bool) × HS) :=
  (if y41 = true then
  (Option.bind (sendq_Queue_Over.f y5 S) fun p13 =>
  (if p13.1 = true then
  some (false, p13.2) else
  rec0 y1 y5 y7 (w64 (y9 + 1)) p13.2)) else
  (Option.bind (sendq_Queue_Over.f y5 S) fun p15 =>
  (if (!p15.1) = true then
  J3 D H k y1 y5 y7 true p15.2 else
  (Option.bind (sendq_Queue_Len.f y5 p15.2) fun p39 =>
  J3 D H k y1 y5 y7 (decide (p39.1 > 512)) p39.2))))
theorem J2_snd {D : Dp} {H : Hd} {k : Nat} {rec0 : (List UInt8) → (Option HA) → Sl → Int → HS → Option ((Bool) × HS)} (hD : DSound Try.prog base W0 D) (hH : HSound Try.prog base W0 β0 H) (hrec0 : ∀ ⦃y1 : (List UInt8)⦄ ⦃y5 : (Option HA)⦄ ⦃y7 : Sl⦄ ⦃y9 : Int⦄ ⦃S : HS⦄ ⦃p : (Bool) × HS⦄ ⦃g0 g2 g3 g4 g6 g8 g10 g11 g12 g13 g14 g15 g16 g17 g18 g19 g20 g21 g22 g23 g24 g25 g26 g27 g28 g29 g30 g31 g32 g33 g34 g35 g36 g37 g38 g39 g40 g41 g42 g43 g44 g45 g46 g47 g48 g49 g50 g51 g52 g53 g54 g55 g56 g57 g58 g59 g60 g61 g62 g63 g64 g65 g66 g67 g68 g69 g70 g71 g72 g73 g74 g75 g76 g77 g78 g79 g80 g81 g82 g83 g84 g85 g86 g87 g88 g89 g90 g91 g92 g93 g94 g95 g96 g97 g98 g99 g100 g101 g102 g103 g104 g105 g106 g107 g108 g109 g110 g111 g112 g113 g114 g115 g116 g117 : HV⦄, rec0 y1 y5 y7 y9 S = some p → HRun Try.prog base W0 β0 6 none [.inLoop c42, .inBlock 2, .code c58] ⟨[g0, (.str y1), g2, g3, g4, (.ptr y5), g6, (Sl.hv y7), g8, (.int .i64 y9), g10, g11, g12, g13, g14, g15, g16, g17, g18, g19, g20, g21, g22, g23, g24, g25, g26, g27, g28, g29, g30, g31, g32, g33, g34, g35, g36, g37, g38, g39, g40, g41, g42, g43, g44, g45, g46, g47, g48, g49, g50, g51, g52, g53, g54, g55, g56, g57, g58, g59, g60, g61, g62, g63, g64, g65, g66, g67, g68, g69, g70, g71, g72, g73, g74, g75, g76, g77, g78, g79, g80, g81, g82, g83, g84, g85, g86, g87, g88, g89, g90, g91, g92, g93, g94, g95, g96, g97, g98, g99, g100, g101, g102, g103, g104, g105, g106, g107, g108, g109, g110, g111, g112, g113, g114, g115, g116, g117], []⟩ S (fun v S1 => v = (.bool p.1) ∧ S1 = p.2)) {y1 : (List UInt8)} {y5 : (Option HA)} {y7 : Sl} {y9 : Int} {y41 : Bool} {S : HS} {p : (Bool) × HS} {g0 g2 g3 g4 g6 g8 g10 g11 g12 g13 g14 g15 g16 g17 g18 g19 g20 g21 g22 g23 g24 g25 g26 g27 g28 g29 g30 g31 g32 g33 g34 g35 g36 g37 g38 g39 g40 g42 g43 g44 g45 g46 g47 g48 g49 g50 g51 g52 g53 g54 g55 g56 g57 g58 g59 g60 g61 g62 g63 g64 g65 g66 g67 g68 g69 g70 g71 g72 g73 g74 g75 g76 g77 g78 g79 g80 g81 g82 g83 g84 g85 g86 g87 g88 g89 g90 g91 g92 g93 g94 g95 g96 g97 g98 g99 g100 g101 g102 g103 g104 g105 g106 g107 g108 g109 g110 g111 g112 g113 g114 g115 g116 g117 : HV} (h : J2 D H k rec0 y1 y5 y7 y9 y41 S = some p) : HRun Try.prog base W0 β0 6 none [.code c45, .code c48, .inLoop c42, .inBlock 2, .code c58] ⟨[g0, (.str y1), g2, g3, g4, (.ptr y5), g6, (Sl.hv y7), g8, (.int .i64 y9), g10, g11, g12, g13, g14, g15, g16, g17, g18, g19, g20, g21, g22, g23, g24, g25, g26, g27, g28, g29, g30, g31, g32, g33, g34, g35, g36, g37, g38, g39, g40, (.bool y41), g42, g43, g44, g45, g46, g47, g48, g49, g50, g51, g52, g53, g54, g55, g56, g57, g58, g59, g60, g61, g62, g63, g64, g65, g66, g67, g68, g69, g70, g71, g72, g73, g74, g75, g76, g77, g78, g79, g80, g81, g82, g83, g84, g85, g86, g87, g88, g89, g90, g91, g92, g93, g94, g95, g96, g97, g98, g99, g100, g101, g102, g103, g104, g105, g106, g107, g108, g109, g110, g111, g112, g113, g114, g115, g116, g117], []⟩ S (fun v S1 => v = (.bool p.1) ∧ S1 = p.2) := by
  unfold J2 at h
  rcases ifc h with ⟨hc12, h⟩ | ⟨hc12, h⟩
  · refine q_cond_t e45 (.tmp rfl) hc12 ?_
    refine q_skipc e46 ?_
    refine q_seq e48 ?_
    refine q_block e49 ?_
    refine q_seq e50 ?_
    refine q_region e51 rfl ?_
    refine q_op (dst := some 44) rfl (fun _ ho => ok_move ho (.tmp rfl)) ?_
    obtain ⟨p13, hp13, h⟩ := bindo h
    refine q_call (dst := some 45) rfl (.func _) (.cons (.tmp rfl) Evs.nil) (HInv.static sendq_Queue_Over.at_ sendq_Queue_Over.body (sendq_Queue_Over.snd  hp13)) ?_
    rintro _ _ ⟨rfl, rfl⟩
    refine hr_region_end ?_
    try dsimp only [HAct.put, List.set_cons_zero, List.set_cons_succ]
    rcases ifc h with ⟨hc14, h⟩ | ⟨hc14, h⟩
    · refine q_cond_t e52 (.tmp rfl) hc14 ?_
      refine q_seq e53 ?_
      refine q_region e54 rfl ?_
      refine q_op (dst := some 4) rfl (fun _ ho => ok_assign ho (.bool _)) ?_
      refine hr_region_end ?_
      try dsimp only [HAct.put, List.set_cons_zero, List.set_cons_succ]
      cases h
      exact q_ret e55 at_.at_ rfl (res1 rfl rfl) ⟨rfl, rfl⟩
    · refine q_cond_f e52 (.tmp rfl) (bfalse hc14) ?_
      refine q_skipc e56 ?_
      refine hr_inBlock ?_
      refine q_region e57 rfl ?_
      refine q_op (dst := some 42) rfl (fun _ ho => ok_move ho (.tmp rfl)) ?_
      refine q_op (dst := some 43) rfl (fun _ ho => ok_ibin ho (.tmp rfl) (.int _ _) rfl) ?_
      refine q_op (dst := some 9) rfl (fun _ ho => ok_assign ho (.tmp rfl)) ?_
      refine hr_region_end ?_
      try dsimp only [HAct.put, List.set_cons_zero, List.set_cons_succ]
      try dsimp only [HAct.put, List.set_cons_zero, List.set_cons_succ]
      exact hrec0 h
  · refine q_cond_f e45 (.tmp rfl) (bfalse hc12) ?_
    refine q_exit e47 rfl ?_
    refine q_seq e58 ?_
    refine q_seq e59 ?_
    refine q_region e60 rfl ?_
    refine q_op (dst := some 46) rfl (fun _ ho => ok_move ho (.tmp rfl)) ?_
    obtain ⟨p15, hp15, h⟩ := bindo h
    refine q_call (dst := some 47) rfl (.func _) (.cons (.tmp rfl) Evs.nil) (HInv.static sendq_Queue_Over.at_ sendq_Queue_Over.body (sendq_Queue_Over.snd  hp15)) ?_
    rintro _ _ ⟨rfl, rfl⟩
    refine q_op (dst := some 48) rfl (fun _ ho => ok_not ho (.tmp rfl)) ?_
    refine q_op (dst := some 49) rfl (fun _ ho => ok_move ho (.tmp rfl)) ?_
    try dsimp only [HAct.put, List.set_cons_zero, List.set_cons_succ]
    rcases ifc h with ⟨hc16, h⟩ | ⟨hc16, h⟩
    · refine q_skip (dst := some 50) (t := 49) rfl rfl rfl hc16 ?_
      refine q_skip (dst := some 51) (t := 49) rfl rfl rfl hc16 ?_
      refine q_skip (dst := some 52) (t := 49) rfl rfl rfl hc16 ?_
      refine q_op (dst := some 53) rfl (fun _ ho => ok_pick_tt ho (.tmp rfl) hc16 (.bool _)) ?_
      try dsimp only [HAct.put, List.set_cons_zero, List.set_cons_succ]
      try dsimp only [HAct.put, List.set_cons_zero, List.set_cons_succ]
      exact J3_snd hD hH h
    · refine q_op_g (t := 49) (dst := some 50) rfl rfl rfl (bfalse hc16) (fun _ ho => ok_move ho (.tmp rfl)) ?_
      obtain ⟨p39, hp39, h⟩ := bindo h
      refine q_call_g (t := 49) (dst := some 51) rfl rfl rfl (bfalse hc16) (.func _) (.cons (.tmp rfl) Evs.nil) (HInv.static sendq_Queue_Len.at_ sendq_Queue_Len.body (sendq_Queue_Len.snd  hp39)) ?_
      rintro _ _ ⟨rfl, rfl⟩
      refine q_op_g (t := 49) (dst := some 52) rfl rfl rfl (bfalse hc16) (fun _ ho => ok_ibin ho (.tmp rfl) (.int _ _) rfl) ?_
      refine q_op (dst := some 53) rfl (fun _ ho => ok_pick_ff ho (.tmp rfl) (bfalse hc16) (.tmp rfl)) ?_
      try dsimp only [HAct.put, List.set_cons_zero, List.set_cons_succ]
      try dsimp only [HAct.put, List.set_cons_zero, List.set_cons_succ]
      exact J3_snd hD hH h
def L1 (D : Dp) (H : Hd) (k : Nat) : Nat → (List UInt8) → (Option HA) → Sl → Int → HS → Option ((Bool) × HS)
  | 0, _, _, _, _, _ => none
  | n + 1, y1, y5, y7, y9, S =>
    (if y9 < 600 then
    (Option.bind (HS.text S y7) fun p10 =>
    (Option.bind (sendq_Queue_Push.f k y5 p10 S) fun p11 =>
    J2 D H k (L1 D H k n) y1 y5 y7 y9 p11.1 p11.2)) else
    J2 D H k (L1 D H k n) y1 y5 y7 y9 false S)
theorem L1_snd {D : Dp} {H : Hd} {k : Nat} (hD : DSound Try.prog base W0 D) (hH : HSound Try.prog base W0 β0 H)  : ∀ {n : Nat} ⦃y1 : (List UInt8)⦄ ⦃y5 : (Option HA)⦄ ⦃y7 : Sl⦄ ⦃y9 : Int⦄ ⦃S : HS⦄ ⦃p : (Bool) × HS⦄ ⦃g0 g2 g3 g4 g6 g8 g10 g11 g12 g13 g14 g15 g16 g17 g18 g19 g20 g21 g22 g23 g24 g25 g26 g27 g28 g29 g30 g31 g32 g33 g34 g35 g36 g37 g38 g39 g40 g41 g42 g43 g44 g45 g46 g47 g48 g49 g50 g51 g52 g53 g54 g55 g56 g57 g58 g59 g60 g61 g62 g63 g64 g65 g66 g67 g68 g69 g70 g71 g72 g73 g74 g75 g76 g77 g78 g79 g80 g81 g82 g83 g84 g85 g86 g87 g88 g89 g90 g91 g92 g93 g94 g95 g96 g97 g98 g99 g100 g101 g102 g103 g104 g105 g106 g107 g108 g109 g110 g111 g112 g113 g114 g115 g116 g117 : HV⦄, L1 D H k n y1 y5 y7 y9 S = some p → HRun Try.prog base W0 β0 6 none [.inLoop c42, .inBlock 2, .code c58] ⟨[g0, (.str y1), g2, g3, g4, (.ptr y5), g6, (Sl.hv y7), g8, (.int .i64 y9), g10, g11, g12, g13, g14, g15, g16, g17, g18, g19, g20, g21, g22, g23, g24, g25, g26, g27, g28, g29, g30, g31, g32, g33, g34, g35, g36, g37, g38, g39, g40, g41, g42, g43, g44, g45, g46, g47, g48, g49, g50, g51, g52, g53, g54, g55, g56, g57, g58, g59, g60, g61, g62, g63, g64, g65, g66, g67, g68, g69, g70, g71, g72, g73, g74, g75, g76, g77, g78, g79, g80, g81, g82, g83, g84, g85, g86, g87, g88, g89, g90, g91, g92, g93, g94, g95, g96, g97, g98, g99, g100, g101, g102, g103, g104, g105, g106, g107, g108, g109, g110, g111, g112, g113, g114, g115, g116, g117], []⟩ S (fun v S1 => v = (.bool p.1) ∧ S1 = p.2) := by
  intro n
  induction n with
  | zero => intro _ _ _ _ _ _ _ _ _ _ _ _ _ _ _ _ _ _ _ _ _ _ _ _ _ _ _ _ _ _ _ _ _ _ _ _ _ _ _ _ _ _ _ _ _ _ _ _ _ _ _ _ _ _ _ _ _ _ _ _ _ _ _ _ _ _ _ _ _ _ _ _ _ _ _ _ _ _ _ _ _ _ _ _ _ _ _ _ _ _ _ _ _ _ _ _ _ _ _ _ _ _ _ _ _ _ _ _ _ _ _ _ _ _ _ _ _ _ _ _ h; cases h
  | succ n ih =>
    intro y1 y5 y7 y9 S p g0 g2 g3 g4 g6 g8 g10 g11 g12 g13 g14 g15 g16 g17 g18 g19 g20 g21 g22 g23 g24 g25 g26 g27 g28 g29 g30 g31 g32 g33 g34 g35 g36 g37 g38 g39 g40 g41 g42 g43 g44 g45 g46 g47 g48 g49 g50 g51 g52 g53 g54 g55 g56 g57 g58 g59 g60 g61 g62 g63 g64 g65 g66 g67 g68 g69 g70 g71 g72 g73 g74 g75 g76 g77 g78 g79 g80 g81 g82 g83 g84 g85 g86 g87 g88 g89 g90 g91 g92 g93 g94 g95 g96 g97 g98 g99 g100 g101 g102 g103 g104 g105 g106 g107 g108 g109 g110 g111 g112 g113 g114 g115 g116 g117 h
    simp only [L1] at h
    refine hr_inLoop ?_
    refine q_seq e42 ?_
    refine q_seq e43 ?_
    refine q_region e44 rfl ?_
    refine q_op (dst := some 34) rfl (fun _ ho => ok_move ho (.tmp rfl)) ?_
    refine q_op (dst := some 35) rfl (fun _ ho => ok_ibin ho (.tmp rfl) (.int _ _) rfl) ?_
    refine q_op (dst := some 36) rfl (fun _ ho => ok_move ho (.tmp rfl)) ?_
    rcases ifc h with ⟨hc9, h⟩ | ⟨hc9, h⟩
    · refine q_op_g (t := 36) (dst := some 37) rfl rfl rfl (decide_eq_true hc9) (fun _ ho => ok_move ho (.tmp rfl)) ?_
      try dsimp only [HAct.put, List.set_cons_zero, List.set_cons_succ]
      refine q_op_g (t := 36) (dst := some 38) rfl rfl rfl (decide_eq_true hc9) (fun _ ho => ok_move ho (.tmp rfl)) ?_
      obtain ⟨p10, hp10, h⟩ := bindo h
      refine q_op_g (t := 36) (dst := some 39) rfl rfl rfl (decide_eq_true hc9) (fun _ ho => ok_str_of_bytes (s := y7) ho tu31 tu5 tu9 (.tmp rfl) hp10) ?_
      obtain ⟨p11, hp11, h⟩ := bindo h
      refine q_call_g (t := 36) (dst := some 40) rfl rfl rfl (decide_eq_true hc9) (.func _) (.cons (.tmp rfl) (.cons (.tmp rfl) Evs.nil)) (HInv.static sendq_Queue_Push.at_ sendq_Queue_Push.body (sendq_Queue_Push.snd  hp11)) ?_
      rintro _ _ ⟨rfl, rfl⟩
      refine q_op (dst := some 41) rfl (fun _ ho => ok_pick_tt ho (.tmp rfl) (decide_eq_true hc9) (.tmp rfl)) ?_
      refine hr_region_end ?_
      try dsimp only [HAct.put, List.set_cons_zero, List.set_cons_succ]
      try dsimp only [HAct.put, List.set_cons_zero, List.set_cons_succ]
      exact J2_snd hD hH ih h
    · refine q_skip (dst := some 37) (t := 36) rfl rfl rfl (decide_eq_false hc9) ?_
      try dsimp only [HAct.put, List.set_cons_zero, List.set_cons_succ]
      refine q_skip (dst := some 38) (t := 36) rfl rfl rfl (decide_eq_false hc9) ?_
      refine q_skip (dst := some 39) (t := 36) rfl rfl rfl (decide_eq_false hc9) ?_
      refine q_skip (dst := some 40) (t := 36) rfl rfl rfl (decide_eq_false hc9) ?_
      refine q_op (dst := some 41) rfl (fun _ ho => ok_pick_ff ho (.tmp rfl) (decide_eq_false hc9) (.bool _)) ?_
      refine hr_region_end ?_
      try dsimp only [HAct.put, List.set_cons_zero, List.set_cons_succ]
      try dsimp only [HAct.put, List.set_cons_zero, List.set_cons_succ]
      exact J2_snd hD hH ih h
def L0 (D : Dp) (H : Hd) (k : Nat) : Nat → (List UInt8) → (Option HA) → Sl → Int → HS → Option ((Bool) × HS)
  | 0, _, _, _, _, _ => none
  | n + 1, y1, y5, y7, y8, S =>
    (if y8 < (Sl.len y7 : Int) then
    (Option.bind (HS.idx S y7 y8 1) fun p7 =>
    (Option.bind (HS.sets S p7 [(.int .u8 120)]) fun p8 =>
    (L0 D H k n) y1 y5 y7 (w64 (y8 + 1)) p8)) else
    L1 D H k k y1 y5 y7 0 S)
theorem L0_snd {D : Dp} {H : Hd} {k : Nat} (hD : DSound Try.prog base W0 D) (hH : HSound Try.prog base W0 β0 H)  : ∀ {n : Nat} ⦃y1 : (List UInt8)⦄ ⦃y5 : (Option HA)⦄ ⦃y7 : Sl⦄ ⦃y8 : Int⦄ ⦃S : HS⦄ ⦃p : (Bool) × HS⦄ ⦃g0 g2 g3 g4 g6 g9 g10 g11 g12 g13 g14 g15 g16 g17 g18 g19 g20 g21 g22 g23 g24 g25 g26 g27 g28 g29 g30 g31 g32 g33 g34 g35 g36 g37 g38 g39 g40 g41 g42 g43 g44 g45 g46 g47 g48 g49 g50 g51 g52 g53 g54 g55 g56 g57 g58 g59 g60 g61 g62 g63 g64 g65 g66 g67 g68 g69 g70 g71 g72 g73 g74 g75 g76 g77 g78 g79 g80 g81 g82 g83 g84 g85 g86 g87 g88 g89 g90 g91 g92 g93 g94 g95 g96 g97 g98 g99 g100 g101 g102 g103 g104 g105 g106 g107 g108 g109 g110 g111 g112 g113 g114 g115 g116 g117 : HV⦄, L0 D H k n y1 y5 y7 y8 S = some p → HRun Try.prog base W0 β0 6 none [.inLoop c27, .inBlock 0, .code c37] ⟨[g0, (.str y1), g2, g3, g4, (.ptr y5), g6, (Sl.hv y7), (.int .i64 y8), g9, g10, g11, g12, g13, g14, g15, g16, g17, g18, g19, g20, g21, g22, g23, g24, g25, g26, g27, g28, g29, g30, g31, g32, g33, g34, g35, g36, g37, g38, g39, g40, g41, g42, g43, g44, g45, g46, g47, g48, g49, g50, g51, g52, g53, g54, g55, g56, g57, g58, g59, g60, g61, g62, g63, g64, g65, g66, g67, g68, g69, g70, g71, g72, g73, g74, g75, g76, g77, g78, g79, g80, g81, g82, g83, g84, g85, g86, g87, g88, g89, g90, g91, g92, g93, g94, g95, g96, g97, g98, g99, g100, g101, g102, g103, g104, g105, g106, g107, g108, g109, g110, g111, g112, g113, g114, g115, g116, g117], []⟩ S (fun v S1 => v = (.bool p.1) ∧ S1 = p.2) := by
  intro n
  induction n with
  | zero => intro _ _ _ _ _ _ _ _ _ _ _ _ _ _ _ _ _ _ _ _ _ _ _ _ _ _ _ _ _ _ _ _ _ _ _ _ _ _ _ _ _ _ _ _ _ _ _ _ _ _ _ _ _ _ _ _ _ _ _ _ _ _ _ _ _ _ _ _ _ _ _ _ _ _ _ _ _ _ _ _ _ _ _ _ _ _ _ _ _ _ _ _ _ _ _ _ _ _ _ _ _ _ _ _ _ _ _ _ _ _ _ _ _ _ _ _ _ _ _ _ h; cases h
  | succ n ih =>
    intro y1 y5 y7 y8 S p g0 g2 g3 g4 g6 g9 g10 g11 g12 g13 g14 g15 g16 g17 g18 g19 g20 g21 g22 g23 g24 g25 g26 g27 g28 g29 g30 g31 g32 g33 g34 g35 g36 g37 g38 g39 g40 g41 g42 g43 g44 g45 g46 g47 g48 g49 g50 g51 g52 g53 g54 g55 g56 g57 g58 g59 g60 g61 g62 g63 g64 g65 g66 g67 g68 g69 g70 g71 g72 g73 g74 g75 g76 g77 g78 g79 g80 g81 g82 g83 g84 g85 g86 g87 g88 g89 g90 g91 g92 g93 g94 g95 g96 g97 g98 g99 g100 g101 g102 g103 g104 g105 g106 g107 g108 g109 g110 g111 g112 g113 g114 g115 g116 g117 h
    simp only [L0] at h
    refine hr_inLoop ?_
    refine q_seq e27 ?_
    refine q_seq e28 ?_
    refine q_region e29 rfl ?_
    refine q_op (dst := some 25) rfl (fun _ ho => ok_move ho (.tmp rfl)) ?_
    refine q_op (dst := some 26) rfl (fun _ ho => ok_move ho (.tmp rfl)) ?_
    refine q_op (dst := some 27) rfl (fun _ ho => ok_len_sl (q := Sl.a y7) (n := Sl.len y7) (z := Sl.cap y7) ho rfl tu31 (.tmp rfl)) ?_
    refine q_op (dst := some 28) rfl (fun _ ho => ok_ibin ho (.tmp rfl) (.tmp rfl) rfl) ?_
    refine hr_region_end ?_
    try dsimp only [HAct.put, List.set_cons_zero, List.set_cons_succ]
    rcases ifc h with ⟨hc6, h⟩ | ⟨hc6, h⟩
    · refine q_cond_t e30 (.tmp rfl) (decide_eq_true hc6) ?_
      refine q_skipc e31 ?_
      refine q_seq e33 ?_
      refine q_block e34 ?_
      refine q_region e35 rfl ?_
      refine q_op (dst := some 31) rfl (fun _ ho => ok_move ho (.tmp rfl)) ?_
      refine q_op (dst := some 32) rfl (fun _ ho => ok_move ho (.tmp rfl)) ?_
      obtain ⟨p7, hp7, h⟩ := bindo h
      refine q_op (dst := some 33) rfl (fun _ ho => ok_indexAddr (s := y7) ho tu31 sz5 (.tmp rfl) (.tmp rfl) hp7) ?_
      obtain ⟨p8, hp8, h⟩ := bindo h
      refine q_op (dst := none) rfl (fun _ ho => ok_store_s (v := (.int .u8 120)) ho sz5 (.tmp rfl) rfl (.int _ _) rfl hp8) ?_
      refine hr_region_end ?_
      try dsimp only [HAct.put, List.set_cons_zero, List.set_cons_succ]
      refine hr_inBlock ?_
      refine q_region e36 rfl ?_
      refine q_op (dst := some 29) rfl (fun _ ho => ok_move ho (.tmp rfl)) ?_
      refine q_op (dst := some 30) rfl (fun _ ho => ok_ibin ho (.tmp rfl) (.int _ _) rfl) ?_
      refine q_op (dst := some 8) rfl (fun _ ho => ok_assign ho (.tmp rfl)) ?_
      refine hr_region_end ?_
      try dsimp only [HAct.put, List.set_cons_zero, List.set_cons_succ]
      try dsimp only [HAct.put, List.set_cons_zero, List.set_cons_succ]
      exact ih h
    · refine q_cond_f e30 (.tmp rfl) (decide_eq_false hc6) ?_
      refine q_exit e32 rfl ?_
      refine q_seq e37 ?_
      refine q_seq e38 ?_
      refine q_region e39 rfl ?_
      refine q_op (dst := some 9) rfl (fun _ ho => ok_assign ho (.int _ _)) ?_
      refine hr_region_end ?_
      try dsimp only [HAct.put, List.set_cons_zero, List.set_cons_succ]
      refine q_block e40 ?_
      refine q_loop e41 ?_
      try dsimp only [HAct.put, List.set_cons_zero, List.set_cons_succ]
      exact L1_snd hD hH h
def f (D : Dp) (H : Hd) (k : Nat) (x0 : Int) (x1 : (List UInt8)) (S : HS) : Option ((Bool) × HS) :=
  (Option.bind (rollcalllaw08_awake.f D H k S) fun p1 =>
  (if (!p1.1) = true then
  some (false, p1.2) else
  (Option.bind (sendq_New.f 512 p1.2) fun p3 =>
  (if (!decide (p3.1.2 = 0)) = true then
  some (false, p3.2) else
  (Option.bind (HS.make p3.2 (Int.tmod (w64 x0) 511) (Int.tmod (w64 x0) 511) [(.int .u8 0)]) fun p5 =>
  L0 D H k k x1 p3.1.1 (p5.1) 0 (p5.2))))))
theorem snd {D : Dp} {H : Hd} {k : Nat} {x0 : Int} {x1 : (List UInt8)} {S : HS} (hD : DSound Try.prog base W0 D) (hH : HSound Try.prog base W0 β0 H)  {p : (Bool) × HS} (h : f D H k x0 x1 S = some p) : HCall Try.prog base W0 β0 6 [(.int .u16 x0), (.str x1)] S (fun v S1 => v = (.bool p.1) ∧ S1 = p.2) := by
  unfold f at h
  refine HCall.of_run at_.at_ body ?_
  show HRun Try.prog base W0 β0 6 none [.code c0] ⟨[(.int .u16 x0), (.str x1), .tup [], .tup [], .tup [], .tup [], .tup [], .tup [], .tup [], .tup [], .tup [], .tup [], .tup [], .tup [], .tup [], .tup [], .tup [], .tup [], .tup [], .tup [], .tup [], .tup [], .tup [], .tup [], .tup [], .tup [], .tup [], .tup [], .tup [], .tup [], .tup [], .tup [], .tup [], .tup [], .tup [], .tup [], .tup [], .tup [], .tup [], .tup [], .tup [], .tup [], .tup [], .tup [], .tup [], .tup [], .tup [], .tup [], .tup [], .tup [], .tup [], .tup [], .tup [], .tup [], .tup [], .tup [], .tup [], .tup [], .tup [], .tup [], .tup [], .tup [], .tup [], .tup [], .tup [], .tup [], .tup [], .tup [], .tup [], .tup [], .tup [], .tup [], .tup [], .tup [], .tup [], .tup [], .tup [], .tup [], .tup [], .tup [], .tup [], .tup [], .tup [], .tup [], .tup [], .tup [], .tup [], .tup [], .tup [], .tup [], .tup [], .tup [], .tup [], .tup [], .tup [], .tup [], .tup [], .tup [], .tup [], .tup [], .tup [], .tup [], .tup [], .tup [], .tup [], .tup [], .tup [], .tup [], .tup [], .tup [], .tup [], .tup [], .tup [], .tup [], .tup [], .tup [], .tup [], .tup []], []⟩ S _
  refine q_seq e0 ?_
  refine q_region e1 rfl ?_
  refine q_op (dst := some 4) rfl (fun _ ho => ok_assign ho (.bool _)) ?_
  refine hr_region_end ?_
  try dsimp only [HAct.put, List.set_cons_zero, List.set_cons_succ]
  refine q_seq e2 ?_
  refine q_seq e3 ?_
  refine q_region e4 rfl ?_
  obtain ⟨p1, hp1, h⟩ := bindo h
  refine q_call (dst := some 13) rfl (.func _) Evs.nil (HInv.static rollcalllaw08_awake.at_ rollcalllaw08_awake.body (rollcalllaw08_awake.snd hD hH hp1)) ?_
  rintro _ _ ⟨rfl, rfl⟩
  refine q_op (dst := some 14) rfl (fun _ ho => ok_not ho (.tmp rfl)) ?_
  refine hr_region_end ?_
  try dsimp only [HAct.put, List.set_cons_zero, List.set_cons_succ]
  rcases ifc h with ⟨hc2, h⟩ | ⟨hc2, h⟩
  · refine q_cond_t e5 (.tmp rfl) hc2 ?_
    refine q_seq e6 ?_
    refine q_region e7 rfl ?_
    refine q_op (dst := some 4) rfl (fun _ ho => ok_assign ho (.bool _)) ?_
    refine hr_region_end ?_
    try dsimp only [HAct.put, List.set_cons_zero, List.set_cons_succ]
    cases h
    exact q_ret e8 at_.at_ rfl (res1 rfl rfl) ⟨rfl, rfl⟩
  · refine q_cond_f e5 (.tmp rfl) (bfalse hc2) ?_
    refine q_skipc e9 ?_
    refine q_seq e10 ?_
    refine q_region e11 rfl ?_
    obtain ⟨p3, hp3, h⟩ := bindo h
    refine q_call (dst := some 16) rfl (.func _) (.cons (.int _ _) Evs.nil) (HInv.static sendq_New.at_ sendq_New.body (sendq_New.snd  hp3)) ?_
    rintro _ _ ⟨rfl, rfl⟩
    refine q_op (dst := some 15) rfl (fun _ ho => ok_move ho (.tmp rfl)) ?_
    refine q_op (dst := some 17) rfl (fun _ ho => ok_extract ho (.tmp rfl) rfl) ?_
    refine q_op (dst := some 18) rfl (fun _ ho => ok_extract ho (.tmp rfl) rfl) ?_
    try dsimp only [HAct.put, List.set_cons_zero, List.set_cons_succ]
    refine q_op (dst := some 5) rfl (fun _ ho => ok_assign ho (.tmp rfl)) ?_
    refine q_op (dst := some 6) rfl (fun _ ho => ok_assign ho (.tmp rfl)) ?_
    refine hr_region_end ?_
    try dsimp only [HAct.put, List.set_cons_zero, List.set_cons_succ]
    refine q_seq e12 ?_
    refine q_seq e13 ?_
    refine q_region e14 rfl ?_
    refine q_op (dst := some 19) rfl (fun _ ho => ok_move ho (.tmp rfl)) ?_
    refine q_op (dst := some 20) rfl (fun _ ho => ok_ibin ho (.tmp rfl) (.int _ _) rfl) ?_
    refine hr_region_end ?_
    try dsimp only [HAct.put, List.set_cons_zero, List.set_cons_succ]
    rcases ifc h with ⟨hc4, h⟩ | ⟨hc4, h⟩
    · refine q_cond_t e15 (.tmp rfl) hc4 ?_
      refine q_seq e16 ?_
      refine q_region e17 rfl ?_
      refine q_op (dst := some 4) rfl (fun _ ho => ok_assign ho (.bool _)) ?_
      refine hr_region_end ?_
      try dsimp only [HAct.put, List.set_cons_zero, List.set_cons_succ]
      cases h
      exact q_ret e18 at_.at_ rfl (res1 rfl rfl) ⟨rfl, rfl⟩
    · refine q_cond_f e15 (.tmp rfl) (bfalse hc4) ?_
      refine q_skipc e19 ?_
      refine q_seq e20 ?_
      refine q_region e21 rfl ?_
      refine q_op (dst := some 21) rfl (fun _ ho => ok_move ho (.tmp rfl)) ?_
      refine q_op (dst := some 22) rfl (fun _ ho => ok_conv_int ho tu22 tu3 (.tmp rfl)) ?_
      refine q_op (dst := some 23) rfl (fun _ ho => ok_rem ho (.tmp rfl) (.int _ _) (by decide)) ?_
      obtain ⟨p5, hp5, h⟩ := bindo h
      refine q_op (dst := some 24) rfl (fun _ ho => ok_make el31 ho (.tmp rfl) (.tmp rfl) hp5) ?_
      try dsimp only [HAct.put, List.set_cons_zero, List.set_cons_succ]
      refine q_op (dst := some 7) rfl (fun _ ho => ok_assign ho (.tmp rfl)) ?_
      refine hr_region_end ?_
      try dsimp only [HAct.put, List.set_cons_zero, List.set_cons_succ]
      refine q_seq e22 ?_
      refine q_seq e23 ?_
      refine q_region e24 rfl ?_
      refine q_op (dst := some 8) rfl (fun _ ho => ok_assign ho (.int _ _)) ?_
      refine hr_region_end ?_
      try dsimp only [HAct.put, List.set_cons_zero, List.set_cons_succ]
      refine q_block e25 ?_
      refine q_loop e26 ?_
      try dsimp only [HAct.put, List.set_cons_zero, List.set_cons_succ]
      exact L0_snd hD hH h
end
end rollcalllaw08_SendqOver
section
variable {base : Nat} {W0 : World} {β0 : Bt}
def call_24 (D : Dp) (H : Hd) (k : Nat) (vs : List HV) (S : HS) : Option (HV × HS) :=
  Option.bind (args1 vs) fun a =>
  Option.bind (dF a) fun p0 =>
  Option.bind (sendq_Queue_Lines_1.f p0) fun q =>
  some (.tup [], S)
theorem call_24_snd {D : Dp} {H : Hd} {k : Nat} (hD : DSound Try.prog base W0 D) (hH : HSound Try.prog base W0 β0 H) {vs : List HV} {S : HS} {p : HV × HS} (h : call_24 D H k vs S = some p) : HCall Try.prog base W0 β0 24 vs S (fun v1 S1 => v1 = p.1 ∧ S1 = p.2) := by
  unfold call_24 at h
  obtain ⟨a, ha, h⟩ := bindo h
  obtain ⟨p0, hp0, h⟩ := bindo h
  obtain ⟨q, hq, h⟩ := bindo h
  rw [args1_out ha, dF_out hp0]
  cases h
  exact sendq_Queue_Lines_1.snd hq
def call_25 (D : Dp) (H : Hd) (k : Nat) (vs : List HV) (S : HS) : Option (HV × HS) :=
  Option.bind (args2 vs) fun a =>
  Option.bind (dF a.1) fun p0 =>
  Option.bind (dP a.2) fun p1 =>
  Option.bind (sendq_Queue_Lines_2.f D H k p0 p1 S) fun q =>
  some (.tup [], q.2)
theorem call_25_snd {D : Dp} {H : Hd} {k : Nat} (hD : DSound Try.prog base W0 D) (hH : HSound Try.prog base W0 β0 H) {vs : List HV} {S : HS} {p : HV × HS} (h : call_25 D H k vs S = some p) : HCall Try.prog base W0 β0 25 vs S (fun v1 S1 => v1 = p.1 ∧ S1 = p.2) := by
  unfold call_25 at h
  obtain ⟨a, ha, h⟩ := bindo h
  obtain ⟨p0, hp0, h⟩ := bindo h
  obtain ⟨p1, hp1, h⟩ := bindo h
  obtain ⟨q, hq, h⟩ := bindo h
  rw [args2_out ha, dF_out hp0, dP_out hp1]
  cases h
  exact sendq_Queue_Lines_2.snd hD hH hq
def disp (k : Nat) : Nat → Dp
  | 0 => fun _ _ _ _ => none
  | n + 1 => fun H fv vs S => match fv with
    | .fn (.yield l) [] [] => Option.bind (H l) fun r => r vs S
    | .fn (.func f) xs ys => if f = 24 then call_24 (disp k n) H k (xs ++ vs ++ ys) S else if f = 25 then call_25 (disp k n) H k (xs ++ vs ++ ys) S else none
    | _ => none
theorem disp_func {k n : Nat} {H : Hd} {f : Nat} {xs ys vs : List HV} {S : HS} : disp k (n + 1) H (.fn (.func f) xs ys) vs S = (if f = 24 then call_24 (disp k n) H k (xs ++ vs ++ ys) S else if f = 25 then call_25 (disp k n) H k (xs ++ vs ++ ys) S else none) := rfl
theorem disp_yield {k n : Nat} {H : Hd} {l : Nat} {vs : List HV} {S : HS} : disp k (n + 1) H (.fn (.yield l) [] []) vs S = Option.bind (H l) fun r => r vs S := rfl
theorem disp_snd {k : Nat} : ∀ n, DSound Try.prog base W0 (disp k n) := by
  intro n
  induction n with
  | zero => intro _ _ _ _ _ _ _ _ h; cases h
  | succ n ih =>
    intro β0 H hH fv vs S v S' h
    unfold disp at h
    split at h
    · obtain ⟨r, hr, h⟩ := bindo h
      exact hH _ _ hr _ _ _ _ h
    · skip
      rcases ifc h with ⟨hf, h⟩ | ⟨hf, h⟩
      · subst hf; exact HInv.func sendq_Queue_Lines_1.at_ sendq_Queue_Lines_1.body (call_24_snd (k := k) ih hH h)
      rcases ifc h with ⟨hf, h⟩ | ⟨hf, h⟩
      · subst hf; exact HInv.func sendq_Queue_Lines_2.at_ sendq_Queue_Lines_2.body (call_25_snd (k := k) ih hH h)
      cases h
    · cases h
end
end Go.Proofs.Ytpjabhpfaahgoaa.X
