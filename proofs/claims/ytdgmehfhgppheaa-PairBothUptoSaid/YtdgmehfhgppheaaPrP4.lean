/- Functions of the program, each as a Lean function over the layer HL: a call answers what the Lean function answers, where it answers. -/
import Derived.Test.YtdgmehfhgppheaaProg
import Derived.Test.YtdgmehfhgppheaaPrP3
namespace Go.Proofs.Ytdgmehfhgppheaa.X
open Go.Proofs.Ytdgmehfhgppheaa.HL
set_option linter.unusedVariables false
set_option linter.unusedSimpArgs false
set_option maxRecDepth 20000
set_option maxHeartbeats 4000000
namespace rollcalllaw11_PairBoth
theorem at_ : FnAt Try.prog 4 Try.f4 := ⟨Try.func4, by kernel_rfl⟩
noncomputable def d0 := (Try.f4.body).getD .skip
noncomputable def r1 := kR (kA d0)
noncomputable def r4 := kR (kA (kA (kB d0)))
noncomputable def r7 := kR (kA (kA (kB (kA (kB d0)))))
noncomputable def r12 := kR (kA (kA (kB (kB d0))))
noncomputable def r15 := kR (kA (kA (kB (kA (kB (kB d0))))))
noncomputable def d18 := kB (kB (kB d0))
noncomputable def r19 := kR (kA d18)
noncomputable def r22 := kR (kA (kA (kB d18)))
noncomputable def r25 := kR (kA (kA (kB (kA (kB d18)))))
noncomputable def d29 := kA (kB (kB d18))
noncomputable def r30 := kR (kA d29)
noncomputable def d33 := kA (kA (kB d29))
noncomputable def r35 := kR (kA (kA d33))
noncomputable def r42 := kR (kA (kA (kA (kB d33))))
noncomputable def r44 := kR (kA (kB (kA (kA (kB d33)))))
noncomputable def r45 := kR (kB (kB (kA (kA (kB d33)))))
noncomputable def r46 := kR (kB (kB d33))
noncomputable def d47 := kB (kB (kB d18))
noncomputable def r48 := kR (kA d47)
noncomputable def r50 := kR (kA (kB d47))
noncomputable def r52 := kR (kA (kB (kB d47)))
noncomputable def d53 := kB (kB (kB d47))
noncomputable def r55 := kR (kA (kA d53))
noncomputable def r60 := kR (kA (kA (kA (kA (kB (kA d53))))))
noncomputable def d64 := kB (kA (kA (kB (kA d53))))
noncomputable def r66 := kR (kA (kA d64))
noncomputable def r67 := kR (kB d64)
noncomputable def r69 := kR (kA (kB d53))
noncomputable def r71 := kR (kA (kB (kB d53)))
noncomputable def c72 : Code := .ret
noncomputable def c68 : Code := .seq (.region 21 r69 false) (.seq (.region 22 r71 false) c72)
noncomputable def c67 : Code := .region 19 r67 false
noncomputable def c58 : Code := .seq (.seq (.region 18 r60 false) (.cond (.tmp 87) .skip (.exit 2))) (.seq (.block 3 (.region 20 r66 false)) c67)
noncomputable def c47 : Code := .seq (.region 14 r48 false) (.seq (.region 15 r50 false) (.seq (.region 16 r52 false) (.seq (.seq (.region 17 r55 false) (.block 2 (.loop c58))) c68)))
noncomputable def c46 : Code := .region 10 r46 false
noncomputable def c33 : Code := .seq (.seq (.region 9 r35 false) (.cond (.tmp 39) .skip (.exit 0))) (.seq (.block 1 (.seq (.region 11 r42 false) (.cond (.tmp 47) (.region 12 r44 true) (.region 13 r45 true)))) c46)
noncomputable def c18 : Code := .seq (.region 5 r19 false) (.seq (.seq (.region 6 r22 false) (.cond (.tmp 35) (.seq (.region 7 r25 false) .ret) .skip)) (.seq (.seq (.region 8 r30 false) (.block 0 (.loop c33))) c47))
noncomputable def c13 : Code := .cond (.tmp 27) (.seq (.region 4 r15 false) .ret) .skip
noncomputable def c0 : Code := .seq (.region 0 r1 false) (.seq (.seq (.region 1 r4 false) (.cond (.tmp 20) (.seq (.region 2 r7 false) .ret) .skip)) (.seq (.seq (.region 3 r12 false) c13) c18))
theorem body : Try.f4.body = some c0 := by kernel_rfl
section
variable {base : Nat} {W0 : World} {β0 : Bt}
def J2 (D : Dp) (H : Hd) (k : Nat) (rec0 : Int → Sl → Int → (List UInt8) → (Option HA) → Int → HS → Option ((Bool) × HS)) (y0 : Int) (y1 : Sl) (y2 : Int) (y3 : (List UInt8)) (y9 : (Option HA)) (y11 : Int) (S : HS) : Option ((Bool) × HS) :=
  rec0 y0 y1 y2 y3 y9 (w64 (y11 + 1)) S
theorem J2_snd {D : Dp} {H : Hd} {k : Nat} {rec0 : Int → Sl → Int → (List UInt8) → (Option HA) → Int → HS → Option ((Bool) × HS)} (hD : DSound Try.prog base W0 D) (hH : HSound Try.prog base W0 β0 H) (hrec0 : ∀ ⦃y0 : Int⦄ ⦃y1 : Sl⦄ ⦃y2 : Int⦄ ⦃y3 : (List UInt8)⦄ ⦃y9 : (Option HA)⦄ ⦃y11 : Int⦄ ⦃S : HS⦄ ⦃p : (Bool) × HS⦄ ⦃g4 g5 g6 g7 g8 g10 g12 g13 g14 g15 g16 g17 g18 g19 g20 g21 g22 g23 g24 g25 g26 g27 g28 g29 g30 g31 g32 g33 g34 g35 g36 g37 g38 g39 g40 g41 g42 g43 g44 g45 g46 g47 g48 g49 g50 g51 g52 g53 g54 g55 g56 g57 g58 g59 g60 g61 g62 g63 g64 g65 g66 g67 g68 g69 g70 g71 g72 g73 g74 g75 g76 g77 g78 g79 g80 g81 g82 g83 g84 g85 g86 g87 g88 g89 g90 g91 g92 g93 g94 g95 g96 g97 g98 g99 g100 g101 g102 g103 g104 g105 g106 g107 g108 g109 g110 g111 g112 g113 g114 g115 g116 g117 g118 g119 g120 g121 g122 g123 g124 g125 g126 g127 g128 g129 g130 g131 g132 g133 g134 g135 g136 g137 g138 g139 g140 g141 g142 g143 g144 g145 g146 g147 g148 g149 : HV⦄, rec0 y0 y1 y2 y3 y9 y11 S = some p → HRun Try.prog base W0 β0 4 none [.inLoop c33, .inBlock 0, .code c47] ⟨[(.int .u8 y0), (Sl.hv y1), (.int .i64 y2), (.str y3), g4, g5, g6, g7, g8, (.ptr y9), g10, (.int .i64 y11), g12, g13, g14, g15, g16, g17, g18, g19, g20, g21, g22, g23, g24, g25, g26, g27, g28, g29, g30, g31, g32, g33, g34, g35, g36, g37, g38, g39, g40, g41, g42, g43, g44, g45, g46, g47, g48, g49, g50, g51, g52, g53, g54, g55, g56, g57, g58, g59, g60, g61, g62, g63, g64, g65, g66, g67, g68, g69, g70, g71, g72, g73, g74, g75, g76, g77, g78, g79, g80, g81, g82, g83, g84, g85, g86, g87, g88, g89, g90, g91, g92, g93, g94, g95, g96, g97, g98, g99, g100, g101, g102, g103, g104, g105, g106, g107, g108, g109, g110, g111, g112, g113, g114, g115, g116, g117, g118, g119, g120, g121, g122, g123, g124, g125, g126, g127, g128, g129, g130, g131, g132, g133, g134, g135, g136, g137, g138, g139, g140, g141, g142, g143, g144, g145, g146, g147, g148, g149], []⟩ S (fun v S1 => v = (.bool p.1) ∧ S1 = p.2)) {y0 : Int} {y1 : Sl} {y2 : Int} {y3 : (List UInt8)} {y9 : (Option HA)} {y11 : Int} {S : HS} {p : (Bool) × HS} {g4 g5 g6 g7 g8 g10 g12 g13 g14 g15 g16 g17 g18 g19 g20 g21 g22 g23 g24 g25 g26 g27 g28 g29 g30 g31 g32 g33 g34 g35 g36 g37 g38 g39 g40 g41 g42 g43 g44 g45 g46 g47 g48 g49 g50 g51 g52 g53 g54 g55 g56 g57 g58 g59 g60 g61 g62 g63 g64 g65 g66 g67 g68 g69 g70 g71 g72 g73 g74 g75 g76 g77 g78 g79 g80 g81 g82 g83 g84 g85 g86 g87 g88 g89 g90 g91 g92 g93 g94 g95 g96 g97 g98 g99 g100 g101 g102 g103 g104 g105 g106 g107 g108 g109 g110 g111 g112 g113 g114 g115 g116 g117 g118 g119 g120 g121 g122 g123 g124 g125 g126 g127 g128 g129 g130 g131 g132 g133 g134 g135 g136 g137 g138 g139 g140 g141 g142 g143 g144 g145 g146 g147 g148 g149 : HV} (h : J2 D H k rec0 y0 y1 y2 y3 y9 y11 S = some p) : HRun Try.prog base W0 β0 4 none [.code c46, .inLoop c33, .inBlock 0, .code c47] ⟨[(.int .u8 y0), (Sl.hv y1), (.int .i64 y2), (.str y3), g4, g5, g6, g7, g8, (.ptr y9), g10, (.int .i64 y11), g12, g13, g14, g15, g16, g17, g18, g19, g20, g21, g22, g23, g24, g25, g26, g27, g28, g29, g30, g31, g32, g33, g34, g35, g36, g37, g38, g39, g40, g41, g42, g43, g44, g45, g46, g47, g48, g49, g50, g51, g52, g53, g54, g55, g56, g57, g58, g59, g60, g61, g62, g63, g64, g65, g66, g67, g68, g69, g70, g71, g72, g73, g74, g75, g76, g77, g78, g79, g80, g81, g82, g83, g84, g85, g86, g87, g88, g89, g90, g91, g92, g93, g94, g95, g96, g97, g98, g99, g100, g101, g102, g103, g104, g105, g106, g107, g108, g109, g110, g111, g112, g113, g114, g115, g116, g117, g118, g119, g120, g121, g122, g123, g124, g125, g126, g127, g128, g129, g130, g131, g132, g133, g134, g135, g136, g137, g138, g139, g140, g141, g142, g143, g144, g145, g146, g147, g148, g149], []⟩ S (fun v S1 => v = (.bool p.1) ∧ S1 = p.2) := by
  unfold J2 at h
  refine q_region rfl rfl ?_
  refine qS 40 rfl (ok_move · (.tmp rfl)) ?_
  refine qS 41 rfl (ok_ibin · (.tmp rfl) (.int _ _) rfl) ?_
  refine qS 11 rfl (ok_assign · (.tmp rfl)) ?_
  refine hr_region_end ?_
  try dsimp only [w0, w1, w2, w3]
  try dsimp only [w0, w1, w2, w3]
  exact hrec0 h
def J4 (D : Dp) (H : Hd) (k : Nat) (rec0 : Int → Int → (List UInt8) → (Option HA) → Sl → Bool → Sl → Bool → Bool → Int → HS → Option ((Bool) × HS)) (y0 : Int) (y2 : Int) (y3 : (List UInt8)) (y9 : (Option HA)) (y12 : Sl) (y13 : Bool) (y14 : Sl) (y15 : Bool) (y17 : Int) (y98 : Bool) (S : HS) : Option ((Bool) × HS) :=
  rec0 y0 y2 y3 y9 y12 y13 y14 y15 y98 (w64 (y17 + 1)) S
theorem J4_snd {D : Dp} {H : Hd} {k : Nat} {rec0 : Int → Int → (List UInt8) → (Option HA) → Sl → Bool → Sl → Bool → Bool → Int → HS → Option ((Bool) × HS)} (hD : DSound Try.prog base W0 D) (hH : HSound Try.prog base W0 β0 H) (hrec0 : ∀ ⦃y0 : Int⦄ ⦃y2 : Int⦄ ⦃y3 : (List UInt8)⦄ ⦃y9 : (Option HA)⦄ ⦃y12 : Sl⦄ ⦃y13 : Bool⦄ ⦃y14 : Sl⦄ ⦃y15 : Bool⦄ ⦃y16 : Bool⦄ ⦃y17 : Int⦄ ⦃S : HS⦄ ⦃p : (Bool) × HS⦄ ⦃g1 g4 g5 g6 g7 g8 g10 g11 g18 g19 g20 g21 g22 g23 g24 g25 g26 g27 g28 g29 g30 g31 g32 g33 g34 g35 g36 g37 g38 g39 g40 g41 g42 g43 g44 g45 g46 g47 g48 g49 g50 g51 g52 g53 g54 g55 g56 g57 g58 g59 g60 g61 g62 g63 g64 g65 g66 g67 g68 g69 g70 g71 g72 g73 g74 g75 g76 g77 g78 g79 g80 g81 g82 g83 g84 g85 g86 g87 g88 g89 g90 g91 g92 g93 g94 g95 g96 g97 g98 g99 g100 g101 g102 g103 g104 g105 g106 g107 g108 g109 g110 g111 g112 g113 g114 g115 g116 g117 g118 g119 g120 g121 g122 g123 g124 g125 g126 g127 g128 g129 g130 g131 g132 g133 g134 g135 g136 g137 g138 g139 g140 g141 g142 g143 g144 g145 g146 g147 g148 g149 : HV⦄, rec0 y0 y2 y3 y9 y12 y13 y14 y15 y16 y17 S = some p → HRun Try.prog base W0 β0 4 none [.inLoop c58, .inBlock 2, .code c68] ⟨[(.int .u8 y0), g1, (.int .i64 y2), (.str y3), g4, g5, g6, g7, g8, (.ptr y9), g10, g11, (Sl.hv y12), (.bool y13), (Sl.hv y14), (.bool y15), (.bool y16), (.int .i64 y17), g18, g19, g20, g21, g22, g23, g24, g25, g26, g27, g28, g29, g30, g31, g32, g33, g34, g35, g36, g37, g38, g39, g40, g41, g42, g43, g44, g45, g46, g47, g48, g49, g50, g51, g52, g53, g54, g55, g56, g57, g58, g59, g60, g61, g62, g63, g64, g65, g66, g67, g68, g69, g70, g71, g72, g73, g74, g75, g76, g77, g78, g79, g80, g81, g82, g83, g84, g85, g86, g87, g88, g89, g90, g91, g92, g93, g94, g95, g96, g97, g98, g99, g100, g101, g102, g103, g104, g105, g106, g107, g108, g109, g110, g111, g112, g113, g114, g115, g116, g117, g118, g119, g120, g121, g122, g123, g124, g125, g126, g127, g128, g129, g130, g131, g132, g133, g134, g135, g136, g137, g138, g139, g140, g141, g142, g143, g144, g145, g146, g147, g148, g149], []⟩ S (fun v S1 => v = (.bool p.1) ∧ S1 = p.2)) {y0 : Int} {y2 : Int} {y3 : (List UInt8)} {y9 : (Option HA)} {y12 : Sl} {y13 : Bool} {y14 : Sl} {y15 : Bool} {y17 : Int} {y98 : Bool} {S : HS} {p : (Bool) × HS} {g1 g4 g5 g6 g7 g8 g10 g11 g16 g18 g19 g20 g21 g22 g23 g24 g25 g26 g27 g28 g29 g30 g31 g32 g33 g34 g35 g36 g37 g38 g39 g40 g41 g42 g43 g44 g45 g46 g47 g48 g49 g50 g51 g52 g53 g54 g55 g56 g57 g58 g59 g60 g61 g62 g63 g64 g65 g66 g67 g68 g69 g70 g71 g72 g73 g74 g75 g76 g77 g78 g79 g80 g81 g82 g83 g84 g85 g86 g87 g88 g89 g90 g91 g92 g93 g94 g95 g96 g97 g99 g100 g101 g102 g103 g104 g105 g106 g107 g108 g109 g110 g111 g112 g113 g114 g115 g116 g117 g118 g119 g120 g121 g122 g123 g124 g125 g126 g127 g128 g129 g130 g131 g132 g133 g134 g135 g136 g137 g138 g139 g140 g141 g142 g143 g144 g145 g146 g147 g148 g149 : HV} (h : J4 D H k rec0 y0 y2 y3 y9 y12 y13 y14 y15 y17 y98 S = some p) : HRun Try.prog base W0 β0 4 none [.inRegion r66 [9], .inBlock 3, .code c67, .inLoop c58, .inBlock 2, .code c68] ⟨[(.int .u8 y0), g1, (.int .i64 y2), (.str y3), g4, g5, g6, g7, g8, (.ptr y9), g10, g11, (Sl.hv y12), (.bool y13), (Sl.hv y14), (.bool y15), g16, (.int .i64 y17), g18, g19, g20, g21, g22, g23, g24, g25, g26, g27, g28, g29, g30, g31, g32, g33, g34, g35, g36, g37, g38, g39, g40, g41, g42, g43, g44, g45, g46, g47, g48, g49, g50, g51, g52, g53, g54, g55, g56, g57, g58, g59, g60, g61, g62, g63, g64, g65, g66, g67, g68, g69, g70, g71, g72, g73, g74, g75, g76, g77, g78, g79, g80, g81, g82, g83, g84, g85, g86, g87, g88, g89, g90, g91, g92, g93, g94, g95, g96, g97, (.bool y98), g99, g100, g101, g102, g103, g104, g105, g106, g107, g108, g109, g110, g111, g112, g113, g114, g115, g116, g117, g118, g119, g120, g121, g122, g123, g124, g125, g126, g127, g128, g129, g130, g131, g132, g133, g134, g135, g136, g137, g138, g139, g140, g141, g142, g143, g144, g145, g146, g147, g148, g149], []⟩ S (fun v S1 => v = (.bool p.1) ∧ S1 = p.2) := by
  unfold J4 at h
  refine qS 16 rfl (ok_assign · (.tmp rfl)) ?_
  refine hr_region_end ?_
  try dsimp only [w0, w1, w2, w3]
  refine hr_inBlock ?_
  refine q_region rfl rfl ?_
  refine qS 88 rfl (ok_move · (.tmp rfl)) ?_
  refine qS 89 rfl (ok_ibin · (.tmp rfl) (.int _ _) rfl) ?_
  refine qS 17 rfl (ok_assign · (.tmp rfl)) ?_
  refine hr_region_end ?_
  try dsimp only [w0, w1, w2, w3]
  try dsimp only [w0, w1, w2, w3]
  exact hrec0 h
def J11 (D : Dp) (H : Hd) (k : Nat) (y149 : Bool) (S : HS) : Option ((Bool) × HS) :=
  some (y149, S)
theorem J11_snd {D : Dp} {H : Hd} {k : Nat} (hD : DSound Try.prog base W0 D) (hH : HSound Try.prog base W0 β0 H)  {y149 : Bool} {S : HS} {p : (Bool) × HS} {g0 g1 g2 g3 g4 g5 g6 g7 g8 g9 g10 g11 g12 g13 g14 g15 g16 g17 g18 g19 g20 g21 g22 g23 g24 g25 g26 g27 g28 g29 g30 g31 g32 g33 g34 g35 g36 g37 g38 g39 g40 g41 g42 g43 g44 g45 g46 g47 g48 g49 g50 g51 g52 g53 g54 g55 g56 g57 g58 g59 g60 g61 g62 g63 g64 g65 g66 g67 g68 g69 g70 g71 g72 g73 g74 g75 g76 g77 g78 g79 g80 g81 g82 g83 g84 g85 g86 g87 g88 g89 g90 g91 g92 g93 g94 g95 g96 g97 g98 g99 g100 g101 g102 g103 g104 g105 g106 g107 g108 g109 g110 g111 g112 g113 g114 g115 g116 g117 g118 g119 g120 g121 g122 g123 g124 g125 g126 g127 g128 g129 g130 g131 g132 g133 g134 g135 g136 g137 g138 g139 g140 g141 g142 g143 g144 g145 g146 g147 g148 : HV} (h : J11 D H k y149 S = some p) : HRun Try.prog base W0 β0 4 none [.inRegion r71 [49], .code c72] ⟨[g0, g1, g2, g3, g4, g5, g6, g7, g8, g9, g10, g11, g12, g13, g14, g15, g16, g17, g18, g19, g20, g21, g22, g23, g24, g25, g26, g27, g28, g29, g30, g31, g32, g33, g34, g35, g36, g37, g38, g39, g40, g41, g42, g43, g44, g45, g46, g47, g48, g49, g50, g51, g52, g53, g54, g55, g56, g57, g58, g59, g60, g61, g62, g63, g64, g65, g66, g67, g68, g69, g70, g71, g72, g73, g74, g75, g76, g77, g78, g79, g80, g81, g82, g83, g84, g85, g86, g87, g88, g89, g90, g91, g92, g93, g94, g95, g96, g97, g98, g99, g100, g101, g102, g103, g104, g105, g106, g107, g108, g109, g110, g111, g112, g113, g114, g115, g116, g117, g118, g119, g120, g121, g122, g123, g124, g125, g126, g127, g128, g129, g130, g131, g132, g133, g134, g135, g136, g137, g138, g139, g140, g141, g142, g143, g144, g145, g146, g147, g148, (.bool y149)], []⟩ S (fun v S1 => v = (.bool p.1) ∧ S1 = p.2) := by
  unfold J11 at h
  refine qS 8 rfl (ok_assign · (.tmp rfl)) ?_
  refine hr_region_end ?_
  try dsimp only [w0, w1, w2, w3]
  cases h
  exact q_ret rfl at_.at_ rfl (res1 rfl rfl) ⟨rfl, rfl⟩
def J10 (D : Dp) (H : Hd) (k : Nat) (y2 : Int) (y9 : (Option HA)) (y143 : Bool) (S : HS) : Option ((Bool) × HS) :=
  (if y143 = true then
  (Option.bind (pair_Rel_int_string_Count.f y9 y2 S) fun p40 =>
  J11 D H k (decide (p40.1 = 0)) p40.2) else
  J11 D H k false S)
theorem J10_snd {D : Dp} {H : Hd} {k : Nat} (hD : DSound Try.prog base W0 D) (hH : HSound Try.prog base W0 β0 H)  {y2 : Int} {y9 : (Option HA)} {y143 : Bool} {S : HS} {p : (Bool) × HS} {g0 g1 g3 g4 g5 g6 g7 g8 g10 g11 g12 g13 g14 g15 g16 g17 g18 g19 g20 g21 g22 g23 g24 g25 g26 g27 g28 g29 g30 g31 g32 g33 g34 g35 g36 g37 g38 g39 g40 g41 g42 g43 g44 g45 g46 g47 g48 g49 g50 g51 g52 g53 g54 g55 g56 g57 g58 g59 g60 g61 g62 g63 g64 g65 g66 g67 g68 g69 g70 g71 g72 g73 g74 g75 g76 g77 g78 g79 g80 g81 g82 g83 g84 g85 g86 g87 g88 g89 g90 g91 g92 g93 g94 g95 g96 g97 g98 g99 g100 g101 g102 g103 g104 g105 g106 g107 g108 g109 g110 g111 g112 g113 g114 g115 g116 g117 g118 g119 g120 g121 g122 g123 g124 g125 g126 g127 g128 g129 g130 g131 g132 g133 g134 g135 g136 g137 g138 g139 g140 g141 g142 g144 g145 g146 g147 g148 g149 : HV} (h : J10 D H k y2 y9 y143 S = some p) : HRun Try.prog base W0 β0 4 none [.inRegion r71 [43, 44, 45, 46, 47, 48, 49], .code c72] ⟨[g0, g1, (.int .i64 y2), g3, g4, g5, g6, g7, g8, (.ptr y9), g10, g11, g12, g13, g14, g15, g16, g17, g18, g19, g20, g21, g22, g23, g24, g25, g26, g27, g28, g29, g30, g31, g32, g33, g34, g35, g36, g37, g38, g39, g40, g41, g42, g43, g44, g45, g46, g47, g48, g49, g50, g51, g52, g53, g54, g55, g56, g57, g58, g59, g60, g61, g62, g63, g64, g65, g66, g67, g68, g69, g70, g71, g72, g73, g74, g75, g76, g77, g78, g79, g80, g81, g82, g83, g84, g85, g86, g87, g88, g89, g90, g91, g92, g93, g94, g95, g96, g97, g98, g99, g100, g101, g102, g103, g104, g105, g106, g107, g108, g109, g110, g111, g112, g113, g114, g115, g116, g117, g118, g119, g120, g121, g122, g123, g124, g125, g126, g127, g128, g129, g130, g131, g132, g133, g134, g135, g136, g137, g138, g139, g140, g141, g142, (.bool y143), g144, g145, g146, g147, g148, g149], []⟩ S (fun v S1 => v = (.bool p.1) ∧ S1 = p.2) := by
  unfold J10 at h
  refine qS 144 rfl (ok_move · (.tmp rfl)) ?_
  try dsimp only [w0, w1, w2, w3]
  rcases ifc h with ⟨hc39, h⟩ | ⟨hc39, h⟩
  · refine qG 144 145 rfl hc39 (ok_move · (.tmp rfl)) ?_
    refine qG 144 146 rfl hc39 (ok_move · (.tmp rfl)) ?_
    obtain ⟨p40, hp40, h⟩ := bindo h
    refine q_call_g (t := 144) (dst := some 147) rfl rfl rfl hc39 (.func _) (.cons (.tmp rfl) (.cons (.tmp rfl) Evs.nil)) (HInv.static pair_Rel_int_string_Count.at_ pair_Rel_int_string_Count.body (pair_Rel_int_string_Count.snd  hp40)) ?_
    rintro _ _ ⟨rfl, rfl⟩
    refine qG 144 148 rfl hc39 (ok_ibin · (.tmp rfl) (.int _ _) rfl) ?_
    try dsimp only [w0, w1, w2, w3]
    refine qS 149 rfl (ok_pick_tt · (.tmp rfl) hc39 (.tmp rfl)) ?_
    try dsimp only [w0, w1, w2, w3]
    exact J11_snd hD hH h
  · refine q_skip (dst := some 145) (t := 144) rfl rfl rfl (bfalse hc39) ?_
    refine q_skip (dst := some 146) (t := 144) rfl rfl rfl (bfalse hc39) ?_
    refine q_skip (dst := some 147) (t := 144) rfl rfl rfl (bfalse hc39) ?_
    refine q_skip (dst := some 148) (t := 144) rfl rfl rfl (bfalse hc39) ?_
    try dsimp only [w0, w1, w2, w3]
    refine qS 149 rfl (ok_pick_ff · (.tmp rfl) (bfalse hc39) (.bool _)) ?_
    try dsimp only [w0, w1, w2, w3]
    exact J11_snd hD hH h
def J9 (D : Dp) (H : Hd) (k : Nat) (y2 : Int) (y9 : (Option HA)) (y12 : Sl) (y18 : Int) (y134 : Bool) (S : HS) : Option ((Bool) × HS) :=
  (if y134 = true then
  (Option.bind (pair_Rel_int_string_Len.f y9 S) fun p38 =>
  J10 D H k y2 y9 (decide (p38.1 = (w64 (y18 - (Sl.len y12 : Int))))) p38.2) else
  J10 D H k y2 y9 false S)
theorem J9_snd {D : Dp} {H : Hd} {k : Nat} (hD : DSound Try.prog base W0 D) (hH : HSound Try.prog base W0 β0 H)  {y2 : Int} {y9 : (Option HA)} {y12 : Sl} {y18 : Int} {y134 : Bool} {S : HS} {p : (Bool) × HS} {g0 g1 g3 g4 g5 g6 g7 g8 g10 g11 g13 g14 g15 g16 g17 g19 g20 g21 g22 g23 g24 g25 g26 g27 g28 g29 g30 g31 g32 g33 g34 g35 g36 g37 g38 g39 g40 g41 g42 g43 g44 g45 g46 g47 g48 g49 g50 g51 g52 g53 g54 g55 g56 g57 g58 g59 g60 g61 g62 g63 g64 g65 g66 g67 g68 g69 g70 g71 g72 g73 g74 g75 g76 g77 g78 g79 g80 g81 g82 g83 g84 g85 g86 g87 g88 g89 g90 g91 g92 g93 g94 g95 g96 g97 g98 g99 g100 g101 g102 g103 g104 g105 g106 g107 g108 g109 g110 g111 g112 g113 g114 g115 g116 g117 g118 g119 g120 g121 g122 g123 g124 g125 g126 g127 g128 g129 g130 g131 g132 g133 g135 g136 g137 g138 g139 g140 g141 g142 g143 g144 g145 g146 g147 g148 g149 : HV} (h : J9 D H k y2 y9 y12 y18 y134 S = some p) : HRun Try.prog base W0 β0 4 none [.inRegion r71 [34, 35, 36, 37, 38, 39, 40, 41, 42, 43, 44, 45, 46, 47, 48, 49], .code c72] ⟨[g0, g1, (.int .i64 y2), g3, g4, g5, g6, g7, g8, (.ptr y9), g10, g11, (Sl.hv y12), g13, g14, g15, g16, g17, (.int .i64 y18), g19, g20, g21, g22, g23, g24, g25, g26, g27, g28, g29, g30, g31, g32, g33, g34, g35, g36, g37, g38, g39, g40, g41, g42, g43, g44, g45, g46, g47, g48, g49, g50, g51, g52, g53, g54, g55, g56, g57, g58, g59, g60, g61, g62, g63, g64, g65, g66, g67, g68, g69, g70, g71, g72, g73, g74, g75, g76, g77, g78, g79, g80, g81, g82, g83, g84, g85, g86, g87, g88, g89, g90, g91, g92, g93, g94, g95, g96, g97, g98, g99, g100, g101, g102, g103, g104, g105, g106, g107, g108, g109, g110, g111, g112, g113, g114, g115, g116, g117, g118, g119, g120, g121, g122, g123, g124, g125, g126, g127, g128, g129, g130, g131, g132, g133, (.bool y134), g135, g136, g137, g138, g139, g140, g141, g142, g143, g144, g145, g146, g147, g148, g149], []⟩ S (fun v S1 => v = (.bool p.1) ∧ S1 = p.2) := by
  unfold J9 at h
  refine qS 135 rfl (ok_move · (.tmp rfl)) ?_
  rcases ifc h with ⟨hc37, h⟩ | ⟨hc37, h⟩
  · refine qG 135 136 rfl hc37 (ok_move · (.tmp rfl)) ?_
    try dsimp only [w0, w1, w2, w3]
    obtain ⟨p38, hp38, h⟩ := bindo h
    refine q_call_g (t := 135) (dst := some 137) rfl rfl rfl hc37 (.func _) (.cons (.tmp rfl) Evs.nil) (HInv.static pair_Rel_int_string_Len.at_ pair_Rel_int_string_Len.body (pair_Rel_int_string_Len.snd  hp38)) ?_
    rintro _ _ ⟨rfl, rfl⟩
    refine qG 135 138 rfl hc37 (ok_move · (.tmp rfl)) ?_
    refine qG 135 139 rfl hc37 (ok_move · (.tmp rfl)) ?_
    refine qG 135 140 rfl hc37 (ok_len_sl (q := Sl.a y12) (n := Sl.len y12) (z := Sl.cap y12) · rfl tu40 (.tmp rfl)) ?_
    try dsimp only [w0, w1, w2, w3]
    refine qG 135 141 rfl hc37 (ok_ibin · (.tmp rfl) (.tmp rfl) rfl) ?_
    refine qG 135 142 rfl hc37 (ok_ibin · (.tmp rfl) (.tmp rfl) rfl) ?_
    refine qS 143 rfl (ok_pick_tt · (.tmp rfl) hc37 (.tmp rfl)) ?_
    try dsimp only [w0, w1, w2, w3]
    exact J10_snd hD hH h
  · refine q_skip (dst := some 136) (t := 135) rfl rfl rfl (bfalse hc37) ?_
    try dsimp only [w0, w1, w2, w3]
    refine q_skip (dst := some 137) (t := 135) rfl rfl rfl (bfalse hc37) ?_
    refine q_skip (dst := some 138) (t := 135) rfl rfl rfl (bfalse hc37) ?_
    refine q_skip (dst := some 139) (t := 135) rfl rfl rfl (bfalse hc37) ?_
    refine q_skip (dst := some 140) (t := 135) rfl rfl rfl (bfalse hc37) ?_
    try dsimp only [w0, w1, w2, w3]
    refine q_skip (dst := some 141) (t := 135) rfl rfl rfl (bfalse hc37) ?_
    refine q_skip (dst := some 142) (t := 135) rfl rfl rfl (bfalse hc37) ?_
    refine qS 143 rfl (ok_pick_ff · (.tmp rfl) (bfalse hc37) (.bool _)) ?_
    try dsimp only [w0, w1, w2, w3]
    exact J10_snd hD hH h
def J8 (D : Dp) (H : Hd) (k : Nat) (y2 : Int) (y9 : (Option HA)) (y12 : Sl) (y18 : Int) (y126 : Bool) (S : HS) : Option ((Bool) × HS) :=
  (if y126 = true then
  (Option.bind (pair_Rel_int_string_Drop.f D H k y9 y2 S) fun p36 =>
  J9 D H k y2 y9 y12 y18 (decide (p36.1 = (Sl.len y12 : Int))) p36.2) else
  J9 D H k y2 y9 y12 y18 false S)
theorem J8_snd {D : Dp} {H : Hd} {k : Nat} (hD : DSound Try.prog base W0 D) (hH : HSound Try.prog base W0 β0 H)  {y2 : Int} {y9 : (Option HA)} {y12 : Sl} {y18 : Int} {y126 : Bool} {S : HS} {p : (Bool) × HS} {g0 g1 g3 g4 g5 g6 g7 g8 g10 g11 g13 g14 g15 g16 g17 g19 g20 g21 g22 g23 g24 g25 g26 g27 g28 g29 g30 g31 g32 g33 g34 g35 g36 g37 g38 g39 g40 g41 g42 g43 g44 g45 g46 g47 g48 g49 g50 g51 g52 g53 g54 g55 g56 g57 g58 g59 g60 g61 g62 g63 g64 g65 g66 g67 g68 g69 g70 g71 g72 g73 g74 g75 g76 g77 g78 g79 g80 g81 g82 g83 g84 g85 g86 g87 g88 g89 g90 g91 g92 g93 g94 g95 g96 g97 g98 g99 g100 g101 g102 g103 g104 g105 g106 g107 g108 g109 g110 g111 g112 g113 g114 g115 g116 g117 g118 g119 g120 g121 g122 g123 g124 g125 g127 g128 g129 g130 g131 g132 g133 g134 g135 g136 g137 g138 g139 g140 g141 g142 g143 g144 g145 g146 g147 g148 g149 : HV} (h : J8 D H k y2 y9 y12 y18 y126 S = some p) : HRun Try.prog base W0 β0 4 none [.inRegion r71 [26, 27, 28, 29, 30, 31, 32, 33, 34, 35, 36, 37, 38, 39, 40, 41, 42, 43, 44, 45, 46, 47, 48, 49], .code c72] ⟨[g0, g1, (.int .i64 y2), g3, g4, g5, g6, g7, g8, (.ptr y9), g10, g11, (Sl.hv y12), g13, g14, g15, g16, g17, (.int .i64 y18), g19, g20, g21, g22, g23, g24, g25, g26, g27, g28, g29, g30, g31, g32, g33, g34, g35, g36, g37, g38, g39, g40, g41, g42, g43, g44, g45, g46, g47, g48, g49, g50, g51, g52, g53, g54, g55, g56, g57, g58, g59, g60, g61, g62, g63, g64, g65, g66, g67, g68, g69, g70, g71, g72, g73, g74, g75, g76, g77, g78, g79, g80, g81, g82, g83, g84, g85, g86, g87, g88, g89, g90, g91, g92, g93, g94, g95, g96, g97, g98, g99, g100, g101, g102, g103, g104, g105, g106, g107, g108, g109, g110, g111, g112, g113, g114, g115, g116, g117, g118, g119, g120, g121, g122, g123, g124, g125, (.bool y126), g127, g128, g129, g130, g131, g132, g133, g134, g135, g136, g137, g138, g139, g140, g141, g142, g143, g144, g145, g146, g147, g148, g149], []⟩ S (fun v S1 => v = (.bool p.1) ∧ S1 = p.2) := by
  unfold J8 at h
  refine qS 127 rfl (ok_move · (.tmp rfl)) ?_
  rcases ifc h with ⟨hc35, h⟩ | ⟨hc35, h⟩
  · refine qG 127 128 rfl hc35 (ok_move · (.tmp rfl)) ?_
    try dsimp only [w0, w1, w2, w3]
    refine qG 127 129 rfl hc35 (ok_move · (.tmp rfl)) ?_
    obtain ⟨p36, hp36, h⟩ := bindo h
    refine q_call_g (t := 127) (dst := some 130) rfl rfl rfl hc35 (.func _) (.cons (.tmp rfl) (.cons (.tmp rfl) Evs.nil)) (HInv.static pair_Rel_int_string_Drop.at_ pair_Rel_int_string_Drop.body (pair_Rel_int_string_Drop.snd hD hH hp36)) ?_
    rintro _ _ ⟨rfl, rfl⟩
    refine qG 127 131 rfl hc35 (ok_move · (.tmp rfl)) ?_
    refine qG 127 132 rfl hc35 (ok_len_sl (q := Sl.a y12) (n := Sl.len y12) (z := Sl.cap y12) · rfl tu40 (.tmp rfl)) ?_
    try dsimp only [w0, w1, w2, w3]
    refine qG 127 133 rfl hc35 (ok_ibin · (.tmp rfl) (.tmp rfl) rfl) ?_
    refine qS 134 rfl (ok_pick_tt · (.tmp rfl) hc35 (.tmp rfl)) ?_
    try dsimp only [w0, w1, w2, w3]
    exact J9_snd hD hH h
  · refine q_skip (dst := some 128) (t := 127) rfl rfl rfl (bfalse hc35) ?_
    try dsimp only [w0, w1, w2, w3]
    refine q_skip (dst := some 129) (t := 127) rfl rfl rfl (bfalse hc35) ?_
    refine q_skip (dst := some 130) (t := 127) rfl rfl rfl (bfalse hc35) ?_
    refine q_skip (dst := some 131) (t := 127) rfl rfl rfl (bfalse hc35) ?_
    refine q_skip (dst := some 132) (t := 127) rfl rfl rfl (bfalse hc35) ?_
    try dsimp only [w0, w1, w2, w3]
    refine q_skip (dst := some 133) (t := 127) rfl rfl rfl (bfalse hc35) ?_
    refine qS 134 rfl (ok_pick_ff · (.tmp rfl) (bfalse hc35) (.bool _)) ?_
    try dsimp only [w0, w1, w2, w3]
    exact J9_snd hD hH h
def J7 (D : Dp) (H : Hd) (k : Nat) (y0 : Int) (y2 : Int) (y9 : (Option HA)) (y12 : Sl) (y18 : Int) (y119 : Bool) (S : HS) : Option ((Bool) × HS) :=
  (if y119 = true then
  J8 D H k y2 y9 y12 y18 (decide ((Sl.len y12 : Int) ≤ (w64 y0))) S else
  J8 D H k y2 y9 y12 y18 false S)
theorem J7_snd {D : Dp} {H : Hd} {k : Nat} (hD : DSound Try.prog base W0 D) (hH : HSound Try.prog base W0 β0 H)  {y0 : Int} {y2 : Int} {y9 : (Option HA)} {y12 : Sl} {y18 : Int} {y119 : Bool} {S : HS} {p : (Bool) × HS} {g1 g3 g4 g5 g6 g7 g8 g10 g11 g13 g14 g15 g16 g17 g19 g20 g21 g22 g23 g24 g25 g26 g27 g28 g29 g30 g31 g32 g33 g34 g35 g36 g37 g38 g39 g40 g41 g42 g43 g44 g45 g46 g47 g48 g49 g50 g51 g52 g53 g54 g55 g56 g57 g58 g59 g60 g61 g62 g63 g64 g65 g66 g67 g68 g69 g70 g71 g72 g73 g74 g75 g76 g77 g78 g79 g80 g81 g82 g83 g84 g85 g86 g87 g88 g89 g90 g91 g92 g93 g94 g95 g96 g97 g98 g99 g100 g101 g102 g103 g104 g105 g106 g107 g108 g109 g110 g111 g112 g113 g114 g115 g116 g117 g118 g120 g121 g122 g123 g124 g125 g126 g127 g128 g129 g130 g131 g132 g133 g134 g135 g136 g137 g138 g139 g140 g141 g142 g143 g144 g145 g146 g147 g148 g149 : HV} (h : J7 D H k y0 y2 y9 y12 y18 y119 S = some p) : HRun Try.prog base W0 β0 4 none [.inRegion r71 [19, 20, 21, 22, 23, 24, 25, 26, 27, 28, 29, 30, 31, 32, 33, 34, 35, 36, 37, 38, 39, 40, 41, 42, 43, 44, 45, 46, 47, 48, 49], .code c72] ⟨[(.int .u8 y0), g1, (.int .i64 y2), g3, g4, g5, g6, g7, g8, (.ptr y9), g10, g11, (Sl.hv y12), g13, g14, g15, g16, g17, (.int .i64 y18), g19, g20, g21, g22, g23, g24, g25, g26, g27, g28, g29, g30, g31, g32, g33, g34, g35, g36, g37, g38, g39, g40, g41, g42, g43, g44, g45, g46, g47, g48, g49, g50, g51, g52, g53, g54, g55, g56, g57, g58, g59, g60, g61, g62, g63, g64, g65, g66, g67, g68, g69, g70, g71, g72, g73, g74, g75, g76, g77, g78, g79, g80, g81, g82, g83, g84, g85, g86, g87, g88, g89, g90, g91, g92, g93, g94, g95, g96, g97, g98, g99, g100, g101, g102, g103, g104, g105, g106, g107, g108, g109, g110, g111, g112, g113, g114, g115, g116, g117, g118, (.bool y119), g120, g121, g122, g123, g124, g125, g126, g127, g128, g129, g130, g131, g132, g133, g134, g135, g136, g137, g138, g139, g140, g141, g142, g143, g144, g145, g146, g147, g148, g149], []⟩ S (fun v S1 => v = (.bool p.1) ∧ S1 = p.2) := by
  unfold J7 at h
  refine qS 120 rfl (ok_move · (.tmp rfl)) ?_
  try dsimp only [w0, w1, w2, w3]
  rcases ifc h with ⟨hc34, h⟩ | ⟨hc34, h⟩
  · refine qG 120 121 rfl hc34 (ok_move · (.tmp rfl)) ?_
    refine qG 120 122 rfl hc34 (ok_len_sl (q := Sl.a y12) (n := Sl.len y12) (z := Sl.cap y12) · rfl tu40 (.tmp rfl)) ?_
    refine qG 120 123 rfl hc34 (ok_move · (.tmp rfl)) ?_
    refine qG 120 124 rfl hc34 (ok_conv_int · tu5 tu3 (.tmp rfl)) ?_
    try dsimp only [w0, w1, w2, w3]
    refine qG 120 125 rfl hc34 (ok_ibin · (.tmp rfl) (.tmp rfl) rfl) ?_
    refine qS 126 rfl (ok_pick_tt · (.tmp rfl) hc34 (.tmp rfl)) ?_
    try dsimp only [w0, w1, w2, w3]
    exact J8_snd hD hH h
  · refine q_skip (dst := some 121) (t := 120) rfl rfl rfl (bfalse hc34) ?_
    refine q_skip (dst := some 122) (t := 120) rfl rfl rfl (bfalse hc34) ?_
    refine q_skip (dst := some 123) (t := 120) rfl rfl rfl (bfalse hc34) ?_
    refine q_skip (dst := some 124) (t := 120) rfl rfl rfl (bfalse hc34) ?_
    try dsimp only [w0, w1, w2, w3]
    refine q_skip (dst := some 125) (t := 120) rfl rfl rfl (bfalse hc34) ?_
    refine qS 126 rfl (ok_pick_ff · (.tmp rfl) (bfalse hc34) (.bool _)) ?_
    try dsimp only [w0, w1, w2, w3]
    exact J8_snd hD hH h
def J6 (D : Dp) (H : Hd) (k : Nat) (y0 : Int) (y2 : Int) (y3 : (List UInt8)) (y9 : (Option HA)) (y12 : Sl) (y16 : Bool) (y18 : Int) (y111 : Bool) (S : HS) : Option ((Bool) × HS) :=
  (if y111 = true then
  (Option.bind (pair_Rel_int_string_Has.f k y9 y2 y3 S) fun p33 =>
  J7 D H k y0 y2 y9 y12 y18 (y16 == p33.1) p33.2) else
  J7 D H k y0 y2 y9 y12 y18 false S)
theorem J6_snd {D : Dp} {H : Hd} {k : Nat} (hD : DSound Try.prog base W0 D) (hH : HSound Try.prog base W0 β0 H)  {y0 : Int} {y2 : Int} {y3 : (List UInt8)} {y9 : (Option HA)} {y12 : Sl} {y16 : Bool} {y18 : Int} {y111 : Bool} {S : HS} {p : (Bool) × HS} {g1 g4 g5 g6 g7 g8 g10 g11 g13 g14 g15 g17 g19 g20 g21 g22 g23 g24 g25 g26 g27 g28 g29 g30 g31 g32 g33 g34 g35 g36 g37 g38 g39 g40 g41 g42 g43 g44 g45 g46 g47 g48 g49 g50 g51 g52 g53 g54 g55 g56 g57 g58 g59 g60 g61 g62 g63 g64 g65 g66 g67 g68 g69 g70 g71 g72 g73 g74 g75 g76 g77 g78 g79 g80 g81 g82 g83 g84 g85 g86 g87 g88 g89 g90 g91 g92 g93 g94 g95 g96 g97 g98 g99 g100 g101 g102 g103 g104 g105 g106 g107 g108 g109 g110 g112 g113 g114 g115 g116 g117 g118 g119 g120 g121 g122 g123 g124 g125 g126 g127 g128 g129 g130 g131 g132 g133 g134 g135 g136 g137 g138 g139 g140 g141 g142 g143 g144 g145 g146 g147 g148 g149 : HV} (h : J6 D H k y0 y2 y3 y9 y12 y16 y18 y111 S = some p) : HRun Try.prog base W0 β0 4 none [.inRegion r71 [11, 12, 13, 14, 15, 16, 17, 18, 19, 20, 21, 22, 23, 24, 25, 26, 27, 28, 29, 30, 31, 32, 33, 34, 35, 36, 37, 38, 39, 40, 41, 42, 43, 44, 45, 46, 47, 48, 49], .code c72] ⟨[(.int .u8 y0), g1, (.int .i64 y2), (.str y3), g4, g5, g6, g7, g8, (.ptr y9), g10, g11, (Sl.hv y12), g13, g14, g15, (.bool y16), g17, (.int .i64 y18), g19, g20, g21, g22, g23, g24, g25, g26, g27, g28, g29, g30, g31, g32, g33, g34, g35, g36, g37, g38, g39, g40, g41, g42, g43, g44, g45, g46, g47, g48, g49, g50, g51, g52, g53, g54, g55, g56, g57, g58, g59, g60, g61, g62, g63, g64, g65, g66, g67, g68, g69, g70, g71, g72, g73, g74, g75, g76, g77, g78, g79, g80, g81, g82, g83, g84, g85, g86, g87, g88, g89, g90, g91, g92, g93, g94, g95, g96, g97, g98, g99, g100, g101, g102, g103, g104, g105, g106, g107, g108, g109, g110, (.bool y111), g112, g113, g114, g115, g116, g117, g118, g119, g120, g121, g122, g123, g124, g125, g126, g127, g128, g129, g130, g131, g132, g133, g134, g135, g136, g137, g138, g139, g140, g141, g142, g143, g144, g145, g146, g147, g148, g149], []⟩ S (fun v S1 => v = (.bool p.1) ∧ S1 = p.2) := by
  unfold J6 at h
  refine qS 112 rfl (ok_move · (.tmp rfl)) ?_
  try dsimp only [w0, w1, w2, w3]
  rcases ifc h with ⟨hc32, h⟩ | ⟨hc32, h⟩
  · refine qG 112 113 rfl hc32 (ok_move · (.tmp rfl)) ?_
    refine qG 112 114 rfl hc32 (ok_move · (.tmp rfl)) ?_
    refine qG 112 115 rfl hc32 (ok_move · (.tmp rfl)) ?_
    refine qG 112 116 rfl hc32 (ok_move · (.tmp rfl)) ?_
    try dsimp only [w0, w1, w2, w3]
    obtain ⟨p33, hp33, h⟩ := bindo h
    refine q_call_g (t := 112) (dst := some 117) rfl rfl rfl hc32 (.func _) (.cons (.tmp rfl) (.cons (.tmp rfl) (.cons (.tmp rfl) Evs.nil))) (HInv.static pair_Rel_int_string_Has.at_ pair_Rel_int_string_Has.body (pair_Rel_int_string_Has.snd  hp33)) ?_
    rintro _ _ ⟨rfl, rfl⟩
    refine qG 112 118 rfl hc32 (ok_beq · tu4 (.inl ⟨rfl, rfl⟩) (.tmp rfl) (.tmp rfl)) ?_
    refine qS 119 rfl (ok_pick_tt · (.tmp rfl) hc32 (.tmp rfl)) ?_
    try dsimp only [w0, w1, w2, w3]
    exact J7_snd hD hH h
  · refine q_skip (dst := some 113) (t := 112) rfl rfl rfl (bfalse hc32) ?_
    refine q_skip (dst := some 114) (t := 112) rfl rfl rfl (bfalse hc32) ?_
    refine q_skip (dst := some 115) (t := 112) rfl rfl rfl (bfalse hc32) ?_
    refine q_skip (dst := some 116) (t := 112) rfl rfl rfl (bfalse hc32) ?_
    try dsimp only [w0, w1, w2, w3]
    refine q_skip (dst := some 117) (t := 112) rfl rfl rfl (bfalse hc32) ?_
    refine q_skip (dst := some 118) (t := 112) rfl rfl rfl (bfalse hc32) ?_
    refine qS 119 rfl (ok_pick_ff · (.tmp rfl) (bfalse hc32) (.bool _)) ?_
    try dsimp only [w0, w1, w2, w3]
    exact J7_snd hD hH h
def J5 (D : Dp) (H : Hd) (k : Nat) (y0 : Int) (y2 : Int) (y3 : (List UInt8)) (y9 : (Option HA)) (y12 : Sl) (y14 : Sl) (y16 : Bool) (y18 : Int) (y104 : Bool) (S : HS) : Option ((Bool) × HS) :=
  (if y104 = true then
  (Option.bind (rollcallref10_Has.f k y14 y2 S) fun p31 =>
  J6 D H k y0 y2 y3 y9 y12 y16 y18 (y16 == p31.1) p31.2) else
  J6 D H k y0 y2 y3 y9 y12 y16 y18 false S)
theorem J5_snd {D : Dp} {H : Hd} {k : Nat} (hD : DSound Try.prog base W0 D) (hH : HSound Try.prog base W0 β0 H)  {y0 : Int} {y2 : Int} {y3 : (List UInt8)} {y9 : (Option HA)} {y12 : Sl} {y14 : Sl} {y16 : Bool} {y18 : Int} {y104 : Bool} {S : HS} {p : (Bool) × HS} {g1 g4 g5 g6 g7 g8 g10 g11 g13 g15 g17 g19 g20 g21 g22 g23 g24 g25 g26 g27 g28 g29 g30 g31 g32 g33 g34 g35 g36 g37 g38 g39 g40 g41 g42 g43 g44 g45 g46 g47 g48 g49 g50 g51 g52 g53 g54 g55 g56 g57 g58 g59 g60 g61 g62 g63 g64 g65 g66 g67 g68 g69 g70 g71 g72 g73 g74 g75 g76 g77 g78 g79 g80 g81 g82 g83 g84 g85 g86 g87 g88 g89 g90 g91 g92 g93 g94 g95 g96 g97 g98 g99 g100 g101 g102 g103 g105 g106 g107 g108 g109 g110 g111 g112 g113 g114 g115 g116 g117 g118 g119 g120 g121 g122 g123 g124 g125 g126 g127 g128 g129 g130 g131 g132 g133 g134 g135 g136 g137 g138 g139 g140 g141 g142 g143 g144 g145 g146 g147 g148 g149 : HV} (h : J5 D H k y0 y2 y3 y9 y12 y14 y16 y18 y104 S = some p) : HRun Try.prog base W0 β0 4 none [.inRegion r71 [4, 5, 6, 7, 8, 9, 10, 11, 12, 13, 14, 15, 16, 17, 18, 19, 20, 21, 22, 23, 24, 25, 26, 27, 28, 29, 30, 31, 32, 33, 34, 35, 36, 37, 38, 39, 40, 41, 42, 43, 44, 45, 46, 47, 48, 49], .code c72] ⟨[(.int .u8 y0), g1, (.int .i64 y2), (.str y3), g4, g5, g6, g7, g8, (.ptr y9), g10, g11, (Sl.hv y12), g13, (Sl.hv y14), g15, (.bool y16), g17, (.int .i64 y18), g19, g20, g21, g22, g23, g24, g25, g26, g27, g28, g29, g30, g31, g32, g33, g34, g35, g36, g37, g38, g39, g40, g41, g42, g43, g44, g45, g46, g47, g48, g49, g50, g51, g52, g53, g54, g55, g56, g57, g58, g59, g60, g61, g62, g63, g64, g65, g66, g67, g68, g69, g70, g71, g72, g73, g74, g75, g76, g77, g78, g79, g80, g81, g82, g83, g84, g85, g86, g87, g88, g89, g90, g91, g92, g93, g94, g95, g96, g97, g98, g99, g100, g101, g102, g103, (.bool y104), g105, g106, g107, g108, g109, g110, g111, g112, g113, g114, g115, g116, g117, g118, g119, g120, g121, g122, g123, g124, g125, g126, g127, g128, g129, g130, g131, g132, g133, g134, g135, g136, g137, g138, g139, g140, g141, g142, g143, g144, g145, g146, g147, g148, g149], []⟩ S (fun v S1 => v = (.bool p.1) ∧ S1 = p.2) := by
  unfold J5 at h
  refine qS 105 rfl (ok_move · (.tmp rfl)) ?_
  rcases ifc h with ⟨hc30, h⟩ | ⟨hc30, h⟩
  · refine qG 105 106 rfl hc30 (ok_move · (.tmp rfl)) ?_
    refine qG 105 107 rfl hc30 (ok_move · (.tmp rfl)) ?_
    refine qG 105 108 rfl hc30 (ok_move · (.tmp rfl)) ?_
    try dsimp only [w0, w1, w2, w3]
    obtain ⟨p31, hp31, h⟩ := bindo h
    refine q_call_g (t := 105) (dst := some 109) rfl rfl rfl hc30 (.func _) (.cons (.tmp rfl) (.cons (.tmp rfl) Evs.nil)) (HInv.static rollcallref10_Has.at_ rollcallref10_Has.body (rollcallref10_Has.snd  hp31)) ?_
    rintro _ _ ⟨rfl, rfl⟩
    refine qG 105 110 rfl hc30 (ok_beq · tu4 (.inl ⟨rfl, rfl⟩) (.tmp rfl) (.tmp rfl)) ?_
    refine qS 111 rfl (ok_pick_tt · (.tmp rfl) hc30 (.tmp rfl)) ?_
    try dsimp only [w0, w1, w2, w3]
    exact J6_snd hD hH h
  · refine q_skip (dst := some 106) (t := 105) rfl rfl rfl (bfalse hc30) ?_
    refine q_skip (dst := some 107) (t := 105) rfl rfl rfl (bfalse hc30) ?_
    refine q_skip (dst := some 108) (t := 105) rfl rfl rfl (bfalse hc30) ?_
    try dsimp only [w0, w1, w2, w3]
    refine q_skip (dst := some 109) (t := 105) rfl rfl rfl (bfalse hc30) ?_
    refine q_skip (dst := some 110) (t := 105) rfl rfl rfl (bfalse hc30) ?_
    refine qS 111 rfl (ok_pick_ff · (.tmp rfl) (bfalse hc30) (.bool _)) ?_
    try dsimp only [w0, w1, w2, w3]
    exact J6_snd hD hH h
def L3 (D : Dp) (H : Hd) (k : Nat) : Nat → Int → Int → (List UInt8) → (Option HA) → Sl → Bool → Sl → Bool → Bool → Int → HS → Option ((Bool) × HS)
  | 0, _, _, _, _, _, _, _, _, _, _, _ => none
  | n + 1, y0, y2, y3, y9, y12, y13, y14, y15, y16, y17, S =>
    (if y17 < (Sl.len y12 : Int) then
    (if y16 = true then
    J4 D H k (L3 D H k n) y0 y2 y3 y9 y12 y13 y14 y15 y17 true S else
    (Option.bind (HS.idx S y12 y17 1) fun p26 =>
    (Option.bind (HS.ldS S p26) fun p27 =>
    J4 D H k (L3 D H k n) y0 y2 y3 y9 y12 y13 y14 y15 y17 (decide (p27 = y3)) S))) else
    (Option.bind (pair_Rel_int_string_Len.f y9 S) fun p28 =>
    (if y13 = true then
    J5 D H k y0 y2 y3 y9 y12 y14 y16 p28.1 y15 p28.2 else
    J5 D H k y0 y2 y3 y9 y12 y14 y16 p28.1 false p28.2)))
theorem L3_snd {D : Dp} {H : Hd} {k : Nat} (hD : DSound Try.prog base W0 D) (hH : HSound Try.prog base W0 β0 H)  : ∀ {n : Nat} ⦃y0 : Int⦄ ⦃y2 : Int⦄ ⦃y3 : (List UInt8)⦄ ⦃y9 : (Option HA)⦄ ⦃y12 : Sl⦄ ⦃y13 : Bool⦄ ⦃y14 : Sl⦄ ⦃y15 : Bool⦄ ⦃y16 : Bool⦄ ⦃y17 : Int⦄ ⦃S : HS⦄ ⦃p : (Bool) × HS⦄ ⦃g1 g4 g5 g6 g7 g8 g10 g11 g18 g19 g20 g21 g22 g23 g24 g25 g26 g27 g28 g29 g30 g31 g32 g33 g34 g35 g36 g37 g38 g39 g40 g41 g42 g43 g44 g45 g46 g47 g48 g49 g50 g51 g52 g53 g54 g55 g56 g57 g58 g59 g60 g61 g62 g63 g64 g65 g66 g67 g68 g69 g70 g71 g72 g73 g74 g75 g76 g77 g78 g79 g80 g81 g82 g83 g84 g85 g86 g87 g88 g89 g90 g91 g92 g93 g94 g95 g96 g97 g98 g99 g100 g101 g102 g103 g104 g105 g106 g107 g108 g109 g110 g111 g112 g113 g114 g115 g116 g117 g118 g119 g120 g121 g122 g123 g124 g125 g126 g127 g128 g129 g130 g131 g132 g133 g134 g135 g136 g137 g138 g139 g140 g141 g142 g143 g144 g145 g146 g147 g148 g149 : HV⦄, L3 D H k n y0 y2 y3 y9 y12 y13 y14 y15 y16 y17 S = some p → HRun Try.prog base W0 β0 4 none [.inLoop c58, .inBlock 2, .code c68] ⟨[(.int .u8 y0), g1, (.int .i64 y2), (.str y3), g4, g5, g6, g7, g8, (.ptr y9), g10, g11, (Sl.hv y12), (.bool y13), (Sl.hv y14), (.bool y15), (.bool y16), (.int .i64 y17), g18, g19, g20, g21, g22, g23, g24, g25, g26, g27, g28, g29, g30, g31, g32, g33, g34, g35, g36, g37, g38, g39, g40, g41, g42, g43, g44, g45, g46, g47, g48, g49, g50, g51, g52, g53, g54, g55, g56, g57, g58, g59, g60, g61, g62, g63, g64, g65, g66, g67, g68, g69, g70, g71, g72, g73, g74, g75, g76, g77, g78, g79, g80, g81, g82, g83, g84, g85, g86, g87, g88, g89, g90, g91, g92, g93, g94, g95, g96, g97, g98, g99, g100, g101, g102, g103, g104, g105, g106, g107, g108, g109, g110, g111, g112, g113, g114, g115, g116, g117, g118, g119, g120, g121, g122, g123, g124, g125, g126, g127, g128, g129, g130, g131, g132, g133, g134, g135, g136, g137, g138, g139, g140, g141, g142, g143, g144, g145, g146, g147, g148, g149], []⟩ S (fun v S1 => v = (.bool p.1) ∧ S1 = p.2) := by
  intro n
  induction n with
  | zero => intro _ _ _ _ _ _ _ _ _ _ _ _ _ _ _ _ _ _ _ _ _ _ _ _ _ _ _ _ _ _ _ _ _ _ _ _ _ _ _ _ _ _ _ _ _ _ _ _ _ _ _ _ _ _ _ _ _ _ _ _ _ _ _ _ _ _ _ _ _ _ _ _ _ _ _ _ _ _ _ _ _ _ _ _ _ _ _ _ _ _ _ _ _ _ _ _ _ _ _ _ _ _ _ _ _ _ _ _ _ _ _ _ _ _ _ _ _ _ _ _ _ _ _ _ _ _ _ _ _ _ _ _ _ _ _ _ _ _ _ _ _ _ _ _ _ _ _ _ _ _ _ _ h; cases h
  | succ n ih =>
    intro y0 y2 y3 y9 y12 y13 y14 y15 y16 y17 S p g1 g4 g5 g6 g7 g8 g10 g11 g18 g19 g20 g21 g22 g23 g24 g25 g26 g27 g28 g29 g30 g31 g32 g33 g34 g35 g36 g37 g38 g39 g40 g41 g42 g43 g44 g45 g46 g47 g48 g49 g50 g51 g52 g53 g54 g55 g56 g57 g58 g59 g60 g61 g62 g63 g64 g65 g66 g67 g68 g69 g70 g71 g72 g73 g74 g75 g76 g77 g78 g79 g80 g81 g82 g83 g84 g85 g86 g87 g88 g89 g90 g91 g92 g93 g94 g95 g96 g97 g98 g99 g100 g101 g102 g103 g104 g105 g106 g107 g108 g109 g110 g111 g112 g113 g114 g115 g116 g117 g118 g119 g120 g121 g122 g123 g124 g125 g126 g127 g128 g129 g130 g131 g132 g133 g134 g135 g136 g137 g138 g139 g140 g141 g142 g143 g144 g145 g146 g147 g148 g149 h
    simp only [L3] at h
    refine hr_inLoop ?_
    refine q_seq rfl ?_
    refine q_seq rfl ?_
    refine q_region rfl rfl ?_
    refine qS 84 rfl (ok_move · (.tmp rfl)) ?_
    refine qS 85 rfl (ok_move · (.tmp rfl)) ?_
    refine qS 86 rfl (ok_len_sl (q := Sl.a y12) (n := Sl.len y12) (z := Sl.cap y12) · rfl tu40 (.tmp rfl)) ?_
    refine qS 87 rfl (ok_ibin · (.tmp rfl) (.tmp rfl) rfl) ?_
    refine hr_region_end ?_
    try dsimp only [w0, w1, w2, w3]
    rcases ifc h with ⟨hc24, h⟩ | ⟨hc24, h⟩
    · refine q_cond_t rfl (.tmp rfl) (decide_eq_true hc24) ?_
      refine q_skipc rfl ?_
      refine q_seq rfl ?_
      refine q_block rfl ?_
      refine q_region rfl rfl ?_
      refine qS 90 rfl (ok_move · (.tmp rfl)) ?_
      refine qS 91 rfl (ok_move · (.tmp rfl)) ?_
      rcases ifc h with ⟨hc25, h⟩ | ⟨hc25, h⟩
      · refine q_skip (dst := some 92) (t := 91) rfl rfl rfl hc25 ?_
        refine q_skip (dst := some 93) (t := 91) rfl rfl rfl hc25 ?_
        try dsimp only [w0, w1, w2, w3]
        refine q_skip (dst := some 94) (t := 91) rfl rfl rfl hc25 ?_
        refine q_skip (dst := some 95) (t := 91) rfl rfl rfl hc25 ?_
        refine q_skip (dst := some 96) (t := 91) rfl rfl rfl hc25 ?_
        refine q_skip (dst := some 97) (t := 91) rfl rfl rfl hc25 ?_
        try dsimp only [w0, w1, w2, w3]
        refine qS 98 rfl (ok_pick_tt · (.tmp rfl) hc25 (.bool _)) ?_
        try dsimp only [w0, w1, w2, w3]
        exact J4_snd hD hH ih h
      · refine qG 91 92 rfl (bfalse hc25) (ok_move · (.tmp rfl)) ?_
        refine qG 91 93 rfl (bfalse hc25) (ok_move · (.tmp rfl)) ?_
        try dsimp only [w0, w1, w2, w3]
        obtain ⟨p26, hp26, h⟩ := bindo h
        refine qG 91 94 rfl (bfalse hc25) (ok_indexAddr (s := y12) · tu40 sz9 (.tmp rfl) (.tmp rfl) hp26) ?_
        obtain ⟨p27, hp27, h⟩ := bindo h
        refine qG 91 95 rfl (bfalse hc25) (ok_load_s · sc9 (.tmp rfl) rfl (ldS_out hp27)) ?_
        refine qG 91 96 rfl (bfalse hc25) (ok_move · (.tmp rfl)) ?_
        refine qG 91 97 rfl (bfalse hc25) (ok_sbin · (.tmp rfl) (.tmp rfl) rfl) ?_
        try dsimp only [w0, w1, w2, w3]
        refine qS 98 rfl (ok_pick_ff · (.tmp rfl) (bfalse hc25) (.tmp rfl)) ?_
        try dsimp only [w0, w1, w2, w3]
        exact J4_snd hD hH ih h
    · refine q_cond_f rfl (.tmp rfl) (decide_eq_false hc24) ?_
      refine q_exit rfl rfl ?_
      refine q_seq rfl ?_
      refine q_region rfl rfl ?_
      refine qS 99 rfl (ok_move · (.tmp rfl)) ?_
      obtain ⟨p28, hp28, h⟩ := bindo h
      refine q_call (dst := some 100) rfl (.func _) (.cons (.tmp rfl) Evs.nil) (HInv.static pair_Rel_int_string_Len.at_ pair_Rel_int_string_Len.body (pair_Rel_int_string_Len.snd  hp28)) ?_
      rintro _ _ ⟨rfl, rfl⟩
      refine qS 18 rfl (ok_assign · (.tmp rfl)) ?_
      refine hr_region_end ?_
      try dsimp only [w0, w1, w2, w3]
      refine q_seq rfl ?_
      refine q_region rfl rfl ?_
      refine qS 101 rfl (ok_move · (.tmp rfl)) ?_
      refine qS 102 rfl (ok_move · (.tmp rfl)) ?_
      rcases ifc h with ⟨hc29, h⟩ | ⟨hc29, h⟩
      · refine qG 102 103 rfl hc29 (ok_move · (.tmp rfl)) ?_
        refine qS 104 rfl (ok_pick_tt · (.tmp rfl) hc29 (.tmp rfl)) ?_
        try dsimp only [w0, w1, w2, w3]
        try dsimp only [w0, w1, w2, w3]
        exact J5_snd hD hH h
      · refine q_skip (dst := some 103) (t := 102) rfl rfl rfl (bfalse hc29) ?_
        refine qS 104 rfl (ok_pick_ff · (.tmp rfl) (bfalse hc29) (.bool _)) ?_
        try dsimp only [w0, w1, w2, w3]
        try dsimp only [w0, w1, w2, w3]
        exact J5_snd hD hH h
def L1 (D : Dp) (H : Hd) (k : Nat) : Nat → Int → Sl → Int → (List UInt8) → (Option HA) → Int → HS → Option ((Bool) × HS)
  | 0, _, _, _, _, _, _, _ => none
  | n + 1, y0, y1, y2, y3, y9, y11, S =>
    (if y11 < (Sl.len y1 : Int) then
    (Option.bind (HS.idx S y1 y11 3) fun p9 =>
    (Option.bind (HS.ldI S .i64 (HA.fld p9 0)) fun p10 =>
    (if p10 = 1 then
    (Option.bind (HS.idx S y1 y11 3) fun p12 =>
    (Option.bind (HS.ldI S .i64 (HA.fld p12 1)) fun p13 =>
    (Option.bind (HS.idx S y1 y11 3) fun p14 =>
    (Option.bind (HS.ldS S (HA.fld p14 2)) fun p15 =>
    (Option.bind (pair_Rel_int_string_Remove.f k y9 p13 p15 S) fun p16 =>
    J2 D H k (L1 D H k n) y0 y1 y2 y3 y9 y11 p16.2))))) else
    (Option.bind (HS.idx S y1 y11 3) fun p17 =>
    (Option.bind (HS.ldI S .i64 (HA.fld p17 1)) fun p18 =>
    (Option.bind (HS.idx S y1 y11 3) fun p19 =>
    (Option.bind (HS.ldS S (HA.fld p19 2)) fun p20 =>
    (Option.bind (pair_Rel_int_string_Add.f k y9 p18 p20 S) fun p21 =>
    J2 D H k (L1 D H k n) y0 y1 y2 y3 y9 y11 p21.2)))))))) else
    (Option.bind (rollcalllaw11_rights.f D H y9 y2 99 S) fun p22 =>
    (Option.bind (rollcalllaw11_lefts.f D H y9 y3 99 p22.2) fun p23 =>
    L3 D H k k y0 y2 y3 y9 p22.1.1 p22.1.2 p23.1.1 p23.1.2 false 0 p23.2)))
theorem L1_snd {D : Dp} {H : Hd} {k : Nat} (hD : DSound Try.prog base W0 D) (hH : HSound Try.prog base W0 β0 H)  : ∀ {n : Nat} ⦃y0 : Int⦄ ⦃y1 : Sl⦄ ⦃y2 : Int⦄ ⦃y3 : (List UInt8)⦄ ⦃y9 : (Option HA)⦄ ⦃y11 : Int⦄ ⦃S : HS⦄ ⦃p : (Bool) × HS⦄ ⦃g4 g5 g6 g7 g8 g10 g12 g13 g14 g15 g16 g17 g18 g19 g20 g21 g22 g23 g24 g25 g26 g27 g28 g29 g30 g31 g32 g33 g34 g35 g36 g37 g38 g39 g40 g41 g42 g43 g44 g45 g46 g47 g48 g49 g50 g51 g52 g53 g54 g55 g56 g57 g58 g59 g60 g61 g62 g63 g64 g65 g66 g67 g68 g69 g70 g71 g72 g73 g74 g75 g76 g77 g78 g79 g80 g81 g82 g83 g84 g85 g86 g87 g88 g89 g90 g91 g92 g93 g94 g95 g96 g97 g98 g99 g100 g101 g102 g103 g104 g105 g106 g107 g108 g109 g110 g111 g112 g113 g114 g115 g116 g117 g118 g119 g120 g121 g122 g123 g124 g125 g126 g127 g128 g129 g130 g131 g132 g133 g134 g135 g136 g137 g138 g139 g140 g141 g142 g143 g144 g145 g146 g147 g148 g149 : HV⦄, L1 D H k n y0 y1 y2 y3 y9 y11 S = some p → HRun Try.prog base W0 β0 4 none [.inLoop c33, .inBlock 0, .code c47] ⟨[(.int .u8 y0), (Sl.hv y1), (.int .i64 y2), (.str y3), g4, g5, g6, g7, g8, (.ptr y9), g10, (.int .i64 y11), g12, g13, g14, g15, g16, g17, g18, g19, g20, g21, g22, g23, g24, g25, g26, g27, g28, g29, g30, g31, g32, g33, g34, g35, g36, g37, g38, g39, g40, g41, g42, g43, g44, g45, g46, g47, g48, g49, g50, g51, g52, g53, g54, g55, g56, g57, g58, g59, g60, g61, g62, g63, g64, g65, g66, g67, g68, g69, g70, g71, g72, g73, g74, g75, g76, g77, g78, g79, g80, g81, g82, g83, g84, g85, g86, g87, g88, g89, g90, g91, g92, g93, g94, g95, g96, g97, g98, g99, g100, g101, g102, g103, g104, g105, g106, g107, g108, g109, g110, g111, g112, g113, g114, g115, g116, g117, g118, g119, g120, g121, g122, g123, g124, g125, g126, g127, g128, g129, g130, g131, g132, g133, g134, g135, g136, g137, g138, g139, g140, g141, g142, g143, g144, g145, g146, g147, g148, g149], []⟩ S (fun v S1 => v = (.bool p.1) ∧ S1 = p.2) := by
  intro n
  induction n with
  | zero => intro _ _ _ _ _ _ _ _ _ _ _ _ _ _ _ _ _ _ _ _ _ _ _ _ _ _ _ _ _ _ _ _ _ _ _ _ _ _ _ _ _ _ _ _ _ _ _ _ _ _ _ _ _ _ _ _ _ _ _ _ _ _ _ _ _ _ _ _ _ _ _ _ _ _ _ _ _ _ _ _ _ _ _ _ _ _ _ _ _ _ _ _ _ _ _ _ _ _ _ _ _ _ _ _ _ _ _ _ _ _ _ _ _ _ _ _ _ _ _ _ _ _ _ _ _ _ _ _ _ _ _ _ _ _ _ _ _ _ _ _ _ _ _ _ _ _ _ _ _ _ _ _ h; cases h
  | succ n ih =>
    intro y0 y1 y2 y3 y9 y11 S p g4 g5 g6 g7 g8 g10 g12 g13 g14 g15 g16 g17 g18 g19 g20 g21 g22 g23 g24 g25 g26 g27 g28 g29 g30 g31 g32 g33 g34 g35 g36 g37 g38 g39 g40 g41 g42 g43 g44 g45 g46 g47 g48 g49 g50 g51 g52 g53 g54 g55 g56 g57 g58 g59 g60 g61 g62 g63 g64 g65 g66 g67 g68 g69 g70 g71 g72 g73 g74 g75 g76 g77 g78 g79 g80 g81 g82 g83 g84 g85 g86 g87 g88 g89 g90 g91 g92 g93 g94 g95 g96 g97 g98 g99 g100 g101 g102 g103 g104 g105 g106 g107 g108 g109 g110 g111 g112 g113 g114 g115 g116 g117 g118 g119 g120 g121 g122 g123 g124 g125 g126 g127 g128 g129 g130 g131 g132 g133 g134 g135 g136 g137 g138 g139 g140 g141 g142 g143 g144 g145 g146 g147 g148 g149 h
    simp only [L1] at h
    refine hr_inLoop ?_
    refine q_seq rfl ?_
    refine q_seq rfl ?_
    refine q_region rfl rfl ?_
    refine qS 36 rfl (ok_move · (.tmp rfl)) ?_
    refine qS 37 rfl (ok_move · (.tmp rfl)) ?_
    refine qS 38 rfl (ok_len_sl (q := Sl.a y1) (n := Sl.len y1) (z := Sl.cap y1) · rfl tu22 (.tmp rfl)) ?_
    refine qS 39 rfl (ok_ibin · (.tmp rfl) (.tmp rfl) rfl) ?_
    refine hr_region_end ?_
    try dsimp only [w0, w1, w2, w3]
    rcases ifc h with ⟨hc8, h⟩ | ⟨hc8, h⟩
    · refine q_cond_t rfl (.tmp rfl) (decide_eq_true hc8) ?_
      refine q_skipc rfl ?_
      refine q_seq rfl ?_
      refine q_block rfl ?_
      refine q_seq rfl ?_
      refine q_region rfl rfl ?_
      refine qS 42 rfl (ok_move · (.tmp rfl)) ?_
      refine qS 43 rfl (ok_move · (.tmp rfl)) ?_
      obtain ⟨p9, hp9, h⟩ := bindo h
      refine qS 44 rfl (ok_indexAddr (s := y1) · tu22 sz34 (.tmp rfl) (.tmp rfl) hp9) ?_
      refine qS 45 rfl (ok_fieldAddr_s · fi34_0 (by decide) (.tmp rfl) rfl) ?_
      try dsimp only [w0, w1, w2, w3]
      obtain ⟨p10, hp10, h⟩ := bindo h
      refine qS 46 rfl (ok_load_s · sc3 (.tmp rfl) rfl (ldI_out hp10)) ?_
      refine qS 47 rfl (ok_ibin · (.tmp rfl) (.int _ _) rfl) ?_
      refine hr_region_end ?_
      try dsimp only [w0, w1, w2, w3]
      rcases ifc h with ⟨hc11, h⟩ | ⟨hc11, h⟩
      · refine q_cond_t rfl (.tmp rfl) (decide_eq_true hc11) ?_
        refine x_start (cls := [0, 0, 0, 1, 0, 1, 0, 0, 1, 0, 1, 2]) (rk := [0, 1, 2, 3, 4, 5, 6, 7, 8, 9, 10, 11]) rfl (by kernel_rfl) ?_
        refine yf 48 [9] rfl (ok_move · (.tmp rfl)) ?_
        refine yf 49 [1] rfl (ok_move · (.tmp rfl)) ?_
        refine yf 50 [11] rfl (ok_move · (.tmp rfl)) ?_
        obtain ⟨p12, hp12, h⟩ := bindo h
        refine yr 51 [49, 50] rfl (ok_indexAddr (s := y1) · tu22 sz34 (.tmp rfl) (.tmp rfl) hp12) ?_
        try dsimp only [w0, w1, w2, w3]
        refine yf 52 [51] rfl (ok_fieldAddr_s · fi34_1 (by decide) (.tmp rfl) rfl) ?_
        obtain ⟨p13, hp13, h⟩ := bindo h
        refine yr 53 [52] rfl (ok_load_s · sc3 (.tmp rfl) rfl (ldI_out hp13)) ?_
        refine yf 54 [1] rfl (ok_move · (.tmp rfl)) ?_
        refine yf 55 [11] rfl (ok_move · (.tmp rfl)) ?_
        try dsimp only [w0, w1, w2, w3]
        obtain ⟨p14, hp14, h⟩ := bindo h
        refine yr 56 [54, 55] rfl (ok_indexAddr (s := y1) · tu22 sz34 (.tmp rfl) (.tmp rfl) hp14) ?_
        refine yf 57 [56] rfl (ok_fieldAddr_s · fi34_2 (by decide) (.tmp rfl) rfl) ?_
        obtain ⟨p15, hp15, h⟩ := bindo h
        refine yr 58 [57] rfl (ok_load_s · sc9 (.tmp rfl) rfl (ldS_out hp15)) ?_
        obtain ⟨p16, hp16, h⟩ := bindo h
        refine x_go (e_call (dst := some 59) (ts := [48, 53, 58]) rfl (by kernel_rfl) (.func _) (.cons (.tmp rfl) (.cons (.tmp rfl) (.cons (.tmp rfl) Evs.nil))) (HInv.static pair_Rel_int_string_Remove.at_ pair_Rel_int_string_Remove.body (pair_Rel_int_string_Remove.snd  hp16))) rfl ?_
        refine x_rest rfl ?_
        refine hr_region_end ?_
        try dsimp only [w0, w1, w2, w3]
        refine hr_inBlock ?_
        try dsimp only [w0, w1, w2, w3]
        exact J2_snd hD hH ih h
      · refine q_cond_f rfl (.tmp rfl) (decide_eq_false hc11) ?_
        refine x_start (cls := [0, 0, 0, 1, 0, 1, 0, 0, 1, 0, 1, 2]) (rk := [0, 1, 2, 3, 4, 5, 6, 7, 8, 9, 10, 11]) rfl (by kernel_rfl) ?_
        refine yf 60 [9] rfl (ok_move · (.tmp rfl)) ?_
        refine yf 61 [1] rfl (ok_move · (.tmp rfl)) ?_
        refine yf 62 [11] rfl (ok_move · (.tmp rfl)) ?_
        obtain ⟨p17, hp17, h⟩ := bindo h
        refine yr 63 [61, 62] rfl (ok_indexAddr (s := y1) · tu22 sz34 (.tmp rfl) (.tmp rfl) hp17) ?_
        try dsimp only [w0, w1, w2, w3]
        refine yf 64 [63] rfl (ok_fieldAddr_s · fi34_1 (by decide) (.tmp rfl) rfl) ?_
        obtain ⟨p18, hp18, h⟩ := bindo h
        refine yr 65 [64] rfl (ok_load_s · sc3 (.tmp rfl) rfl (ldI_out hp18)) ?_
        refine yf 66 [1] rfl (ok_move · (.tmp rfl)) ?_
        refine yf 67 [11] rfl (ok_move · (.tmp rfl)) ?_
        try dsimp only [w0, w1, w2, w3]
        obtain ⟨p19, hp19, h⟩ := bindo h
        refine yr 68 [66, 67] rfl (ok_indexAddr (s := y1) · tu22 sz34 (.tmp rfl) (.tmp rfl) hp19) ?_
        refine yf 69 [68] rfl (ok_fieldAddr_s · fi34_2 (by decide) (.tmp rfl) rfl) ?_
        obtain ⟨p20, hp20, h⟩ := bindo h
        refine yr 70 [69] rfl (ok_load_s · sc9 (.tmp rfl) rfl (ldS_out hp20)) ?_
        obtain ⟨p21, hp21, h⟩ := bindo h
        refine x_go (e_call (dst := some 71) (ts := [60, 65, 70]) rfl (by kernel_rfl) (.func _) (.cons (.tmp rfl) (.cons (.tmp rfl) (.cons (.tmp rfl) Evs.nil))) (HInv.static pair_Rel_int_string_Add.at_ pair_Rel_int_string_Add.body (pair_Rel_int_string_Add.snd  hp21))) rfl ?_
        refine x_rest rfl ?_
        refine hr_region_end ?_
        try dsimp only [w0, w1, w2, w3]
        refine hr_inBlock ?_
        try dsimp only [w0, w1, w2, w3]
        exact J2_snd hD hH ih h
    · refine q_cond_f rfl (.tmp rfl) (decide_eq_false hc8) ?_
      refine q_exit rfl rfl ?_
      refine q_seq rfl ?_
      refine q_region rfl rfl ?_
      refine qS 73 rfl (ok_move · (.tmp rfl)) ?_
      refine qS 74 rfl (ok_move · (.tmp rfl)) ?_
      obtain ⟨p22, hp22, h⟩ := bindo h
      refine q_call (dst := some 75) rfl (.func _) (.cons (.tmp rfl) (.cons (.tmp rfl) (.cons (.int _ _) Evs.nil))) (HInv.static rollcalllaw11_rights.at_ rollcalllaw11_rights.body (rollcalllaw11_rights.snd hD hH hp22)) ?_
      rintro _ _ ⟨rfl, rfl⟩
      refine qS 72 rfl (ok_move · (.tmp rfl)) ?_
      try dsimp only [w0, w1, w2, w3]
      refine qS 76 rfl (ok_extract · (.tmp rfl) rfl) ?_
      refine qS 77 rfl (ok_extract · (.tmp rfl) rfl) ?_
      refine qS 12 rfl (ok_assign · (.tmp rfl)) ?_
      refine qS 13 rfl (ok_assign · (.tmp rfl)) ?_
      refine hr_region_end ?_
      try dsimp only [w0, w1, w2, w3]
      refine q_seq rfl ?_
      refine q_region rfl rfl ?_
      refine qS 79 rfl (ok_move · (.tmp rfl)) ?_
      refine qS 80 rfl (ok_move · (.tmp rfl)) ?_
      obtain ⟨p23, hp23, h⟩ := bindo h
      refine q_call (dst := some 81) rfl (.func _) (.cons (.tmp rfl) (.cons (.tmp rfl) (.cons (.int _ _) Evs.nil))) (HInv.static rollcalllaw11_lefts.at_ rollcalllaw11_lefts.body (rollcalllaw11_lefts.snd hD hH hp23)) ?_
      rintro _ _ ⟨rfl, rfl⟩
      refine qS 78 rfl (ok_move · (.tmp rfl)) ?_
      try dsimp only [w0, w1, w2, w3]
      refine qS 82 rfl (ok_extract · (.tmp rfl) rfl) ?_
      refine qS 83 rfl (ok_extract · (.tmp rfl) rfl) ?_
      refine qS 14 rfl (ok_assign · (.tmp rfl)) ?_
      refine qS 15 rfl (ok_assign · (.tmp rfl)) ?_
      refine hr_region_end ?_
      try dsimp only [w0, w1, w2, w3]
      refine q_seq rfl ?_
      refine q_region rfl rfl ?_
      refine qS 16 rfl (ok_assign · (.bool _)) ?_
      refine hr_region_end ?_
      try dsimp only [w0, w1, w2, w3]
      refine q_seq rfl ?_
      refine q_seq rfl ?_
      refine q_region rfl rfl ?_
      refine qS 17 rfl (ok_assign · (.int _ _)) ?_
      refine hr_region_end ?_
      try dsimp only [w0, w1, w2, w3]
      refine q_block rfl ?_
      refine q_loop rfl ?_
      try dsimp only [w0, w1, w2, w3]
      exact L3_snd hD hH h
def J0 (D : Dp) (H : Hd) (k : Nat) (y0 : Int) (y1 : Sl) (y2 : Int) (y3 : (List UInt8)) (y27 : Bool) (S : HS) : Option ((Bool) × HS) :=
  (if y27 = true then
  some (true, S) else
  (Option.bind (pair_New_int_string.f (w64 y0) S) fun p6 =>
  (if (!decide (p6.1.2 = 0)) = true then
  some (false, p6.2) else
  L1 D H k k y0 y1 y2 y3 p6.1.1 0 p6.2)))
theorem J0_snd {D : Dp} {H : Hd} {k : Nat} (hD : DSound Try.prog base W0 D) (hH : HSound Try.prog base W0 β0 H)  {y0 : Int} {y1 : Sl} {y2 : Int} {y3 : (List UInt8)} {y27 : Bool} {S : HS} {p : (Bool) × HS} {g4 g5 g6 g7 g8 g9 g10 g11 g12 g13 g14 g15 g16 g17 g18 g19 g20 g21 g22 g23 g24 g25 g26 g28 g29 g30 g31 g32 g33 g34 g35 g36 g37 g38 g39 g40 g41 g42 g43 g44 g45 g46 g47 g48 g49 g50 g51 g52 g53 g54 g55 g56 g57 g58 g59 g60 g61 g62 g63 g64 g65 g66 g67 g68 g69 g70 g71 g72 g73 g74 g75 g76 g77 g78 g79 g80 g81 g82 g83 g84 g85 g86 g87 g88 g89 g90 g91 g92 g93 g94 g95 g96 g97 g98 g99 g100 g101 g102 g103 g104 g105 g106 g107 g108 g109 g110 g111 g112 g113 g114 g115 g116 g117 g118 g119 g120 g121 g122 g123 g124 g125 g126 g127 g128 g129 g130 g131 g132 g133 g134 g135 g136 g137 g138 g139 g140 g141 g142 g143 g144 g145 g146 g147 g148 g149 : HV} (h : J0 D H k y0 y1 y2 y3 y27 S = some p) : HRun Try.prog base W0 β0 4 none [.code c13, .code c18] ⟨[(.int .u8 y0), (Sl.hv y1), (.int .i64 y2), (.str y3), g4, g5, g6, g7, g8, g9, g10, g11, g12, g13, g14, g15, g16, g17, g18, g19, g20, g21, g22, g23, g24, g25, g26, (.bool y27), g28, g29, g30, g31, g32, g33, g34, g35, g36, g37, g38, g39, g40, g41, g42, g43, g44, g45, g46, g47, g48, g49, g50, g51, g52, g53, g54, g55, g56, g57, g58, g59, g60, g61, g62, g63, g64, g65, g66, g67, g68, g69, g70, g71, g72, g73, g74, g75, g76, g77, g78, g79, g80, g81, g82, g83, g84, g85, g86, g87, g88, g89, g90, g91, g92, g93, g94, g95, g96, g97, g98, g99, g100, g101, g102, g103, g104, g105, g106, g107, g108, g109, g110, g111, g112, g113, g114, g115, g116, g117, g118, g119, g120, g121, g122, g123, g124, g125, g126, g127, g128, g129, g130, g131, g132, g133, g134, g135, g136, g137, g138, g139, g140, g141, g142, g143, g144, g145, g146, g147, g148, g149], []⟩ S (fun v S1 => v = (.bool p.1) ∧ S1 = p.2) := by
  unfold J0 at h
  rcases ifc h with ⟨hc5, h⟩ | ⟨hc5, h⟩
  · refine q_cond_t rfl (.tmp rfl) hc5 ?_
    refine q_seq rfl ?_
    refine q_region rfl rfl ?_
    refine qS 8 rfl (ok_assign · (.bool _)) ?_
    refine hr_region_end ?_
    try dsimp only [w0, w1, w2, w3]
    cases h
    exact q_ret rfl at_.at_ rfl (res1 rfl rfl) ⟨rfl, rfl⟩
  · refine q_cond_f rfl (.tmp rfl) (bfalse hc5) ?_
    refine q_skipc rfl ?_
    refine q_seq rfl ?_
    refine q_region rfl rfl ?_
    refine qS 29 rfl (ok_move · (.tmp rfl)) ?_
    refine qS 30 rfl (ok_conv_int · tu5 tu3 (.tmp rfl)) ?_
    obtain ⟨p6, hp6, h⟩ := bindo h
    refine q_call (dst := some 31) rfl (.func _) (.cons (.tmp rfl) Evs.nil) (HInv.static pair_New_int_string.at_ pair_New_int_string.body (pair_New_int_string.snd  hp6)) ?_
    rintro _ _ ⟨rfl, rfl⟩
    refine qS 28 rfl (ok_move · (.tmp rfl)) ?_
    try dsimp only [w0, w1, w2, w3]
    refine qS 32 rfl (ok_extract · (.tmp rfl) rfl) ?_
    refine qS 33 rfl (ok_extract · (.tmp rfl) rfl) ?_
    refine qS 9 rfl (ok_assign · (.tmp rfl)) ?_
    refine qS 10 rfl (ok_assign · (.tmp rfl)) ?_
    refine hr_region_end ?_
    try dsimp only [w0, w1, w2, w3]
    refine q_seq rfl ?_
    refine q_seq rfl ?_
    refine q_region rfl rfl ?_
    refine qS 34 rfl (ok_move · (.tmp rfl)) ?_
    refine qS 35 rfl (ok_ibin · (.tmp rfl) (.int _ _) rfl) ?_
    refine hr_region_end ?_
    try dsimp only [w0, w1, w2, w3]
    rcases ifc h with ⟨hc7, h⟩ | ⟨hc7, h⟩
    · refine q_cond_t rfl (.tmp rfl) hc7 ?_
      refine q_seq rfl ?_
      refine q_region rfl rfl ?_
      refine qS 8 rfl (ok_assign · (.bool _)) ?_
      refine hr_region_end ?_
      try dsimp only [w0, w1, w2, w3]
      cases h
      exact q_ret rfl at_.at_ rfl (res1 rfl rfl) ⟨rfl, rfl⟩
    · refine q_cond_f rfl (.tmp rfl) (bfalse hc7) ?_
      refine q_skipc rfl ?_
      refine q_seq rfl ?_
      refine q_seq rfl ?_
      refine q_region rfl rfl ?_
      refine qS 11 rfl (ok_assign · (.int _ _)) ?_
      refine hr_region_end ?_
      try dsimp only [w0, w1, w2, w3]
      refine q_block rfl ?_
      refine q_loop rfl ?_
      try dsimp only [w0, w1, w2, w3]
      exact L1_snd hD hH h
def f (D : Dp) (H : Hd) (k : Nat) (x0 : Int) (x1 : Sl) (x2 : Int) (x3 : (List UInt8)) (S : HS) : Option ((Bool) × HS) :=
  (Option.bind (rollcalllaw11_awake.f D H k S) fun p1 =>
  (if (!p1.1) = true then
  some (false, p1.2) else
  (Option.bind (rollcalllaw11_great.f k x1 p1.2) fun p3 =>
  (if p3.1 = true then
  J0 D H k x0 x1 x2 x3 true p3.2 else
  J0 D H k x0 x1 x2 x3 (decide ((List.length x3 : Int) > 20)) p3.2))))
theorem snd {D : Dp} {H : Hd} {k : Nat} {x0 : Int} {x1 : Sl} {x2 : Int} {x3 : (List UInt8)} {S : HS} (hD : DSound Try.prog base W0 D) (hH : HSound Try.prog base W0 β0 H)  {p : (Bool) × HS} (h : f D H k x0 x1 x2 x3 S = some p) : HCall Try.prog base W0 β0 4 [(.int .u8 x0), (Sl.hv x1), (.int .i64 x2), (.str x3)] S (fun v S1 => v = (.bool p.1) ∧ S1 = p.2) := by
  unfold f at h
  refine HCall.of_run at_.at_ body ?_
  show HRun Try.prog base W0 β0 4 none [.code c0] ⟨[(.int .u8 x0), (Sl.hv x1), (.int .i64 x2), (.str x3), τ, τ, τ, τ, τ, τ, τ, τ, τ, τ, τ, τ, τ, τ, τ, τ, τ, τ, τ, τ, τ, τ, τ, τ, τ, τ, τ, τ, τ, τ, τ, τ, τ, τ, τ, τ, τ, τ, τ, τ, τ, τ, τ, τ, τ, τ, τ, τ, τ, τ, τ, τ, τ, τ, τ, τ, τ, τ, τ, τ, τ, τ, τ, τ, τ, τ, τ, τ, τ, τ, τ, τ, τ, τ, τ, τ, τ, τ, τ, τ, τ, τ, τ, τ, τ, τ, τ, τ, τ, τ, τ, τ, τ, τ, τ, τ, τ, τ, τ, τ, τ, τ, τ, τ, τ, τ, τ, τ, τ, τ, τ, τ, τ, τ, τ, τ, τ, τ, τ, τ, τ, τ, τ, τ, τ, τ, τ, τ, τ, τ, τ, τ, τ, τ, τ, τ, τ, τ, τ, τ, τ, τ, τ, τ, τ, τ], []⟩ S _
  refine q_seq rfl ?_
  refine q_region rfl rfl ?_
  refine qS 8 rfl (ok_assign · (.bool _)) ?_
  refine hr_region_end ?_
  try dsimp only [w0, w1, w2, w3]
  refine q_seq rfl ?_
  refine q_seq rfl ?_
  refine q_region rfl rfl ?_
  obtain ⟨p1, hp1, h⟩ := bindo h
  refine q_call (dst := some 19) rfl (.func _) Evs.nil (HInv.static rollcalllaw11_awake.at_ rollcalllaw11_awake.body (rollcalllaw11_awake.snd hD hH hp1)) ?_
  rintro _ _ ⟨rfl, rfl⟩
  refine qS 20 rfl (ok_not · (.tmp rfl)) ?_
  refine hr_region_end ?_
  try dsimp only [w0, w1, w2, w3]
  rcases ifc h with ⟨hc2, h⟩ | ⟨hc2, h⟩
  · refine q_cond_t rfl (.tmp rfl) hc2 ?_
    refine q_seq rfl ?_
    refine q_region rfl rfl ?_
    refine qS 8 rfl (ok_assign · (.bool _)) ?_
    refine hr_region_end ?_
    try dsimp only [w0, w1, w2, w3]
    cases h
    exact q_ret rfl at_.at_ rfl (res1 rfl rfl) ⟨rfl, rfl⟩
  · refine q_cond_f rfl (.tmp rfl) (bfalse hc2) ?_
    refine q_skipc rfl ?_
    refine q_seq rfl ?_
    refine q_seq rfl ?_
    refine q_region rfl rfl ?_
    refine qS 21 rfl (ok_move · (.tmp rfl)) ?_
    obtain ⟨p3, hp3, h⟩ := bindo h
    refine q_call (dst := some 22) rfl (.func _) (.cons (.tmp rfl) Evs.nil) (HInv.static rollcalllaw11_great.at_ rollcalllaw11_great.body (rollcalllaw11_great.snd  hp3)) ?_
    rintro _ _ ⟨rfl, rfl⟩
    refine qS 23 rfl (ok_move · (.tmp rfl)) ?_
    rcases ifc h with ⟨hc4, h⟩ | ⟨hc4, h⟩
    · refine q_skip (dst := some 24) (t := 23) rfl rfl rfl hc4 ?_
      try dsimp only [w0, w1, w2, w3]
      refine q_skip (dst := some 25) (t := 23) rfl rfl rfl hc4 ?_
      refine q_skip (dst := some 26) (t := 23) rfl rfl rfl hc4 ?_
      refine qS 27 rfl (ok_pick_tt · (.tmp rfl) hc4 (.bool _)) ?_
      refine hr_region_end ?_
      try dsimp only [w0, w1, w2, w3]
      try dsimp only [w0, w1, w2, w3]
      exact J0_snd hD hH h
    · refine qG 23 24 rfl (bfalse hc4) (ok_move · (.tmp rfl)) ?_
      try dsimp only [w0, w1, w2, w3]
      refine qG 23 25 rfl (bfalse hc4) (ok_len_str · rfl tu9 (.tmp rfl)) ?_
      refine qG 23 26 rfl (bfalse hc4) (ok_ibin · (.tmp rfl) (.int _ _) rfl) ?_
      refine qS 27 rfl (ok_pick_ff · (.tmp rfl) (bfalse hc4) (.tmp rfl)) ?_
      refine hr_region_end ?_
      try dsimp only [w0, w1, w2, w3]
      try dsimp only [w0, w1, w2, w3]
      exact J0_snd hD hH h
end
end rollcalllaw11_PairBoth
section
variable {base : Nat} {W0 : World} {β0 : Bt}
def call_68 (D : Dp) (H : Hd) (k : Nat) (vs : List HV) (S : HS) : Option (HV × HS) :=
  Option.bind (args2 vs) fun a =>
  Option.bind (dF a.1) fun p0 =>
  Option.bind (dP a.2) fun p1 =>
  Option.bind (slices_Values_int_int_1.f D H k p0 p1 S) fun q =>
  some (.tup [], q.2)
theorem call_68_snd {D : Dp} {H : Hd} {k : Nat} (hD : DSound Try.prog base W0 D) (hH : HSound Try.prog base W0 β0 H) {vs : List HV} {S : HS} {p : HV × HS} (h : call_68 D H k vs S = some p) : HCall Try.prog base W0 β0 68 vs S (fun v1 S1 => v1 = p.1 ∧ S1 = p.2) := by
  unfold call_68 at h
  obtain ⟨a, ha, h⟩ := bindo h
  obtain ⟨p0, hp0, h⟩ := bindo h
  obtain ⟨p1, hp1, h⟩ := bindo h
  obtain ⟨q, hq, h⟩ := bindo h
  rw [args2_out ha, dF_out hp0, dP_out hp1]
  cases h
  exact slices_Values_int_int_1.snd hD hH hq
def call_54 (D : Dp) (H : Hd) (k : Nat) (vs : List HV) (S : HS) : Option (HV × HS) :=
  Option.bind (args1 vs) fun a =>
  Option.bind (dF a) fun p0 =>
  Option.bind (pair_Rel_int_string_By_1.f p0) fun q =>
  some (.tup [], S)
theorem call_54_snd {D : Dp} {H : Hd} {k : Nat} (hD : DSound Try.prog base W0 D) (hH : HSound Try.prog base W0 β0 H) {vs : List HV} {S : HS} {p : HV × HS} (h : call_54 D H k vs S = some p) : HCall Try.prog base W0 β0 54 vs S (fun v1 S1 => v1 = p.1 ∧ S1 = p.2) := by
  unfold call_54 at h
  obtain ⟨a, ha, h⟩ := bindo h
  obtain ⟨p0, hp0, h⟩ := bindo h
  obtain ⟨q, hq, h⟩ := bindo h
  rw [args1_out ha, dF_out hp0]
  cases h
  exact pair_Rel_int_string_By_1.snd hq
def call_72 (D : Dp) (H : Hd) (k : Nat) (vs : List HV) (S : HS) : Option (HV × HS) :=
  Option.bind (args2 vs) fun a =>
  Option.bind (dF a.1) fun p0 =>
  Option.bind (dP a.2) fun p1 =>
  Option.bind (slices_Values_string_string_1.f D H k p0 p1 S) fun q =>
  some (.tup [], q.2)
theorem call_72_snd {D : Dp} {H : Hd} {k : Nat} (hD : DSound Try.prog base W0 D) (hH : HSound Try.prog base W0 β0 H) {vs : List HV} {S : HS} {p : HV × HS} (h : call_72 D H k vs S = some p) : HCall Try.prog base W0 β0 72 vs S (fun v1 S1 => v1 = p.1 ∧ S1 = p.2) := by
  unfold call_72 at h
  obtain ⟨a, ha, h⟩ := bindo h
  obtain ⟨p0, hp0, h⟩ := bindo h
  obtain ⟨p1, hp1, h⟩ := bindo h
  obtain ⟨q, hq, h⟩ := bindo h
  rw [args2_out ha, dF_out hp0, dP_out hp1]
  cases h
  exact slices_Values_string_string_1.snd hD hH hq
def call_48 (D : Dp) (H : Hd) (k : Nat) (vs : List HV) (S : HS) : Option (HV × HS) :=
  Option.bind (args1 vs) fun a =>
  Option.bind (dF a) fun p0 =>
  Option.bind (pair_Rel_int_string_Of_1.f p0) fun q =>
  some (.tup [], S)
theorem call_48_snd {D : Dp} {H : Hd} {k : Nat} (hD : DSound Try.prog base W0 D) (hH : HSound Try.prog base W0 β0 H) {vs : List HV} {S : HS} {p : HV × HS} (h : call_48 D H k vs S = some p) : HCall Try.prog base W0 β0 48 vs S (fun v1 S1 => v1 = p.1 ∧ S1 = p.2) := by
  unfold call_48 at h
  obtain ⟨a, ha, h⟩ := bindo h
  obtain ⟨p0, hp0, h⟩ := bindo h
  obtain ⟨q, hq, h⟩ := bindo h
  rw [args1_out ha, dF_out hp0]
  cases h
  exact pair_Rel_int_string_Of_1.snd hq
def disp (k : Nat) : Nat → Dp
  | 0 => fun _ _ _ _ => none
  | n + 1 => fun H fv vs S => match fv with
    | .fn (.yield l) [] [] => Option.bind (H l) fun r => r vs S
    | .fn (.func f) xs ys => if f = 68 then call_68 (disp k n) H k (xs ++ vs ++ ys) S else if f = 54 then call_54 (disp k n) H k (xs ++ vs ++ ys) S else if f = 72 then call_72 (disp k n) H k (xs ++ vs ++ ys) S else if f = 48 then call_48 (disp k n) H k (xs ++ vs ++ ys) S else none
    | _ => none
theorem disp_func {k n : Nat} {H : Hd} {f : Nat} {xs ys vs : List HV} {S : HS} : disp k (n + 1) H (.fn (.func f) xs ys) vs S = (if f = 68 then call_68 (disp k n) H k (xs ++ vs ++ ys) S else if f = 54 then call_54 (disp k n) H k (xs ++ vs ++ ys) S else if f = 72 then call_72 (disp k n) H k (xs ++ vs ++ ys) S else if f = 48 then call_48 (disp k n) H k (xs ++ vs ++ ys) S else none) := rfl
theorem disp_yield {k n : Nat} {H : Hd} {l : Nat} {vs : List HV} {S : HS} : disp k (n + 1) H (.fn (.yield l) [] []) vs S = Option.bind (H l) fun r => r vs S := rfl
theorem disp_snd {k : Nat} : ∀ n, DSound Try.prog base W0 (disp k n) := by
  intro n
  induction n with
  | zero => intro _ _ _ _ _ _ _ _ h; cases h
  | succ n ih =>
    intro β0 H hH fv vs S v S' h
    unfold disp at h
    split at h
    · obtain ⟨r, hr, h⟩ := bindo h
      exact hH _ _ hr _ _ _ _ h
    · skip
      rcases ifc h with ⟨hf, h⟩ | ⟨hf, h⟩
      · subst hf; exact HInv.func slices_Values_int_int_1.at_ slices_Values_int_int_1.body (call_68_snd (k := k) ih hH h)
      rcases ifc h with ⟨hf, h⟩ | ⟨hf, h⟩
      · subst hf; exact HInv.func pair_Rel_int_string_By_1.at_ pair_Rel_int_string_By_1.body (call_54_snd (k := k) ih hH h)
      rcases ifc h with ⟨hf, h⟩ | ⟨hf, h⟩
      · subst hf; exact HInv.func slices_Values_string_string_1.at_ slices_Values_string_string_1.body (call_72_snd (k := k) ih hH h)
      rcases ifc h with ⟨hf, h⟩ | ⟨hf, h⟩
      · subst hf; exact HInv.func pair_Rel_int_string_Of_1.at_ pair_Rel_int_string_Of_1.body (call_48_snd (k := k) ih hH h)
      cases h
    · cases h
end
end Go.Proofs.Ytdgmehfhgppheaa.X
