/- Functions of the program, each as a Lean function over the layer HL: a call answers what the Lean function answers, where it answers. -/
import Derived.Test.YtdgmehfhgppheaaProg
import Derived.Test.YtdgmehfhgppheaaPrP2
namespace Go.Proofs.Ytdgmehfhgppheaa.X
open Go.Proofs.Ytdgmehfhgppheaa.HL
set_option linter.unusedVariables false
set_option linter.unusedSimpArgs false
set_option maxRecDepth 20000
set_option maxHeartbeats 4000000
namespace rollcallref11_Rel_Of
theorem at_ : FnAt Try.prog 20 Try.f20 := ⟨Try.func20, by kernel_rfl⟩
noncomputable def d0 := (Try.f20.body).getD .skip
noncomputable def r1 := kR (kA d0)
noncomputable def r3 := kR (kA (kB d0))
noncomputable def d5 := kA (kB (kB d0))
noncomputable def r8 := kR (kA (kA (kA d5)))
noncomputable def d9 := kB (kA (kA d5))
noncomputable def r11 := kR (kA (kA d9))
noncomputable def d13 := kA (kB (kA d9))
noncomputable def r16 := kR (kA (kA (kA d13)))
noncomputable def r24 := kR (kA (kA (kA (kA (kB (kA d13))))))
noncomputable def d28 := kB (kA (kA (kB (kA d13))))
noncomputable def r29 := kR (kA d28)
noncomputable def r31 := kR (kA (kB d28))
noncomputable def r33 := kR (kB (kB (kA d13)))
noncomputable def r36 := kR (kA (kA (kB d9)))
noncomputable def r39 := kR (kA (kA (kB (kA (kB d9)))))
noncomputable def r42 := kR (kB (kB d9))
noncomputable def c34 : Code := .seq (.seq (.region 9 r36 false) (.cond (.tmp 72) (.seq (.region 10 r39 false) .ret) .skip)) (.region 11 r42 false)
noncomputable def c33 : Code := .region 5 r33 false
noncomputable def c30 : Code := .cond (.tmp 69) (.region 8 r31 false) .skip
noncomputable def c28 : Code := .seq (.region 7 r29 true) c30
noncomputable def c25 : Code := .cond (.tmp 48) (.exit 3) .skip
noncomputable def c14 : Code := .seq (.seq (.region 4 r16 false) (.cond (.tmp 14) .skip (.exit 2))) (.seq (.block 3 (.seq (.seq (.region 6 r24 true) c25) c28)) c33)
noncomputable def c6 : Code := .block 1 (.seq (.region 2 r8 false) (.seq (.seq (.region 3 r11 false) (.block 2 (.loop c14))) c34))
noncomputable def c0 : Code := .seq (.region 0 r1 false) (.seq (.region 1 r3 false) (.block 0 (.loop c6)))
theorem body : Try.f20.body = some c0 := by kernel_rfl
section
variable {base : Nat} {W0 : World} {β0 : Bt}
def J3 (k : Nat) (rec0 : (Option HA) → Int → Sl → Int → Int → HS → Option ((Sl) × HS)) (rec1 : (Option HA) → Int → Sl → HS → Option ((Sl) × HS)) (y0 : (Option HA)) (y1 : Int) (y5 : Sl) (y6 : Int) (y7 : Int) (S : HS) : Option ((Sl) × HS) :=
  rec0 y0 y1 y5 y6 (w64 (y7 + 1)) S
theorem J3_snd {k : Nat} {rec0 : (Option HA) → Int → Sl → Int → Int → HS → Option ((Sl) × HS)} {rec1 : (Option HA) → Int → Sl → HS → Option ((Sl) × HS)} (hrec0 : ∀ ⦃y0 : (Option HA)⦄ ⦃y1 : Int⦄ ⦃y5 : Sl⦄ ⦃y6 : Int⦄ ⦃y7 : Int⦄ ⦃S : HS⦄ ⦃p : (Sl) × HS⦄ ⦃g2 g3 g4 g8 g9 g10 g11 g12 g13 g14 g15 g16 g17 g18 g19 g20 g21 g22 g23 g24 g25 g26 g27 g28 g29 g30 g31 g32 g33 g34 g35 g36 g37 g38 g39 g40 g41 g42 g43 g44 g45 g46 g47 g48 g49 g50 g51 g52 g53 g54 g55 g56 g57 g58 g59 g60 g61 g62 g63 g64 g65 g66 g67 g68 g69 g70 g71 g72 g73 g74 g75 g76 g77 g78 g79 g80 g81 g82 g83 g84 : HV⦄, rec0 y0 y1 y5 y6 y7 S = some p → HRun Try.prog base W0 β0 20 none [.inLoop c14, .inBlock 2, .code c34, .inBlock 1, .inLoop c6, .inBlock 0] ⟨[(.ptr y0), (.int .i64 y1), g2, g3, g4, (Sl.hv y5), (.int .i64 y6), (.int .i64 y7), g8, g9, g10, g11, g12, g13, g14, g15, g16, g17, g18, g19, g20, g21, g22, g23, g24, g25, g26, g27, g28, g29, g30, g31, g32, g33, g34, g35, g36, g37, g38, g39, g40, g41, g42, g43, g44, g45, g46, g47, g48, g49, g50, g51, g52, g53, g54, g55, g56, g57, g58, g59, g60, g61, g62, g63, g64, g65, g66, g67, g68, g69, g70, g71, g72, g73, g74, g75, g76, g77, g78, g79, g80, g81, g82, g83, g84], []⟩ S (fun v S1 => v = (Sl.hv p.1) ∧ S1 = p.2)) (hrec1 : ∀ ⦃y0 : (Option HA)⦄ ⦃y1 : Int⦄ ⦃y5 : Sl⦄ ⦃S : HS⦄ ⦃p : (Sl) × HS⦄ ⦃g2 g3 g4 g6 g7 g8 g9 g10 g11 g12 g13 g14 g15 g16 g17 g18 g19 g20 g21 g22 g23 g24 g25 g26 g27 g28 g29 g30 g31 g32 g33 g34 g35 g36 g37 g38 g39 g40 g41 g42 g43 g44 g45 g46 g47 g48 g49 g50 g51 g52 g53 g54 g55 g56 g57 g58 g59 g60 g61 g62 g63 g64 g65 g66 g67 g68 g69 g70 g71 g72 g73 g74 g75 g76 g77 g78 g79 g80 g81 g82 g83 g84 : HV⦄, rec1 y0 y1 y5 S = some p → HRun Try.prog base W0 β0 20 none [.inLoop c6, .inBlock 0] ⟨[(.ptr y0), (.int .i64 y1), g2, g3, g4, (Sl.hv y5), g6, g7, g8, g9, g10, g11, g12, g13, g14, g15, g16, g17, g18, g19, g20, g21, g22, g23, g24, g25, g26, g27, g28, g29, g30, g31, g32, g33, g34, g35, g36, g37, g38, g39, g40, g41, g42, g43, g44, g45, g46, g47, g48, g49, g50, g51, g52, g53, g54, g55, g56, g57, g58, g59, g60, g61, g62, g63, g64, g65, g66, g67, g68, g69, g70, g71, g72, g73, g74, g75, g76, g77, g78, g79, g80, g81, g82, g83, g84], []⟩ S (fun v S1 => v = (Sl.hv p.1) ∧ S1 = p.2)) {y0 : (Option HA)} {y1 : Int} {y5 : Sl} {y6 : Int} {y7 : Int} {S : HS} {p : (Sl) × HS} {g2 g3 g4 g8 g9 g10 g11 g12 g13 g14 g15 g16 g17 g18 g19 g20 g21 g22 g23 g24 g25 g26 g27 g28 g29 g30 g31 g32 g33 g34 g35 g36 g37 g38 g39 g40 g41 g42 g43 g44 g45 g46 g47 g48 g49 g50 g51 g52 g53 g54 g55 g56 g57 g58 g59 g60 g61 g62 g63 g64 g65 g66 g67 g68 g69 g70 g71 g72 g73 g74 g75 g76 g77 g78 g79 g80 g81 g82 g83 g84 : HV} (h : J3 k rec0 rec1 y0 y1 y5 y6 y7 S = some p) : HRun Try.prog base W0 β0 20 none [.code c33, .inLoop c14, .inBlock 2, .code c34, .inBlock 1, .inLoop c6, .inBlock 0] ⟨[(.ptr y0), (.int .i64 y1), g2, g3, g4, (Sl.hv y5), (.int .i64 y6), (.int .i64 y7), g8, g9, g10, g11, g12, g13, g14, g15, g16, g17, g18, g19, g20, g21, g22, g23, g24, g25, g26, g27, g28, g29, g30, g31, g32, g33, g34, g35, g36, g37, g38, g39, g40, g41, g42, g43, g44, g45, g46, g47, g48, g49, g50, g51, g52, g53, g54, g55, g56, g57, g58, g59, g60, g61, g62, g63, g64, g65, g66, g67, g68, g69, g70, g71, g72, g73, g74, g75, g76, g77, g78, g79, g80, g81, g82, g83, g84], []⟩ S (fun v S1 => v = (Sl.hv p.1) ∧ S1 = p.2) := by
  unfold J3 at h
  refine q_region rfl rfl ?_
  refine qS 15 rfl (ok_move · (.tmp rfl)) ?_
  refine qS 16 rfl (ok_ibin · (.tmp rfl) (.int _ _) rfl) ?_
  refine qS 7 rfl (ok_assign · (.tmp rfl)) ?_
  refine hr_region_end ?_
  try dsimp only [w0, w1, w2, w3]
  try dsimp only [w0, w1, w2, w3]
  exact hrec0 h
def J4 (k : Nat) (rec0 : (Option HA) → Int → Sl → Int → Int → HS → Option ((Sl) × HS)) (rec1 : (Option HA) → Int → Sl → HS → Option ((Sl) × HS)) (y0 : (Option HA)) (y1 : Int) (y5 : Sl) (y6 : Int) (y7 : Int) (y69 : Bool) (S : HS) : Option ((Sl) × HS) :=
  (if y69 = true then
  J3 k rec0 rec1 y0 y1 y5 y7 y7 S else
  J3 k rec0 rec1 y0 y1 y5 y6 y7 S)
theorem J4_snd {k : Nat} {rec0 : (Option HA) → Int → Sl → Int → Int → HS → Option ((Sl) × HS)} {rec1 : (Option HA) → Int → Sl → HS → Option ((Sl) × HS)} (hrec0 : ∀ ⦃y0 : (Option HA)⦄ ⦃y1 : Int⦄ ⦃y5 : Sl⦄ ⦃y6 : Int⦄ ⦃y7 : Int⦄ ⦃S : HS⦄ ⦃p : (Sl) × HS⦄ ⦃g2 g3 g4 g8 g9 g10 g11 g12 g13 g14 g15 g16 g17 g18 g19 g20 g21 g22 g23 g24 g25 g26 g27 g28 g29 g30 g31 g32 g33 g34 g35 g36 g37 g38 g39 g40 g41 g42 g43 g44 g45 g46 g47 g48 g49 g50 g51 g52 g53 g54 g55 g56 g57 g58 g59 g60 g61 g62 g63 g64 g65 g66 g67 g68 g69 g70 g71 g72 g73 g74 g75 g76 g77 g78 g79 g80 g81 g82 g83 g84 : HV⦄, rec0 y0 y1 y5 y6 y7 S = some p → HRun Try.prog base W0 β0 20 none [.inLoop c14, .inBlock 2, .code c34, .inBlock 1, .inLoop c6, .inBlock 0] ⟨[(.ptr y0), (.int .i64 y1), g2, g3, g4, (Sl.hv y5), (.int .i64 y6), (.int .i64 y7), g8, g9, g10, g11, g12, g13, g14, g15, g16, g17, g18, g19, g20, g21, g22, g23, g24, g25, g26, g27, g28, g29, g30, g31, g32, g33, g34, g35, g36, g37, g38, g39, g40, g41, g42, g43, g44, g45, g46, g47, g48, g49, g50, g51, g52, g53, g54, g55, g56, g57, g58, g59, g60, g61, g62, g63, g64, g65, g66, g67, g68, g69, g70, g71, g72, g73, g74, g75, g76, g77, g78, g79, g80, g81, g82, g83, g84], []⟩ S (fun v S1 => v = (Sl.hv p.1) ∧ S1 = p.2)) (hrec1 : ∀ ⦃y0 : (Option HA)⦄ ⦃y1 : Int⦄ ⦃y5 : Sl⦄ ⦃S : HS⦄ ⦃p : (Sl) × HS⦄ ⦃g2 g3 g4 g6 g7 g8 g9 g10 g11 g12 g13 g14 g15 g16 g17 g18 g19 g20 g21 g22 g23 g24 g25 g26 g27 g28 g29 g30 g31 g32 g33 g34 g35 g36 g37 g38 g39 g40 g41 g42 g43 g44 g45 g46 g47 g48 g49 g50 g51 g52 g53 g54 g55 g56 g57 g58 g59 g60 g61 g62 g63 g64 g65 g66 g67 g68 g69 g70 g71 g72 g73 g74 g75 g76 g77 g78 g79 g80 g81 g82 g83 g84 : HV⦄, rec1 y0 y1 y5 S = some p → HRun Try.prog base W0 β0 20 none [.inLoop c6, .inBlock 0] ⟨[(.ptr y0), (.int .i64 y1), g2, g3, g4, (Sl.hv y5), g6, g7, g8, g9, g10, g11, g12, g13, g14, g15, g16, g17, g18, g19, g20, g21, g22, g23, g24, g25, g26, g27, g28, g29, g30, g31, g32, g33, g34, g35, g36, g37, g38, g39, g40, g41, g42, g43, g44, g45, g46, g47, g48, g49, g50, g51, g52, g53, g54, g55, g56, g57, g58, g59, g60, g61, g62, g63, g64, g65, g66, g67, g68, g69, g70, g71, g72, g73, g74, g75, g76, g77, g78, g79, g80, g81, g82, g83, g84], []⟩ S (fun v S1 => v = (Sl.hv p.1) ∧ S1 = p.2)) {y0 : (Option HA)} {y1 : Int} {y5 : Sl} {y6 : Int} {y7 : Int} {y69 : Bool} {S : HS} {p : (Sl) × HS} {g2 g3 g4 g8 g9 g10 g11 g12 g13 g14 g15 g16 g17 g18 g19 g20 g21 g22 g23 g24 g25 g26 g27 g28 g29 g30 g31 g32 g33 g34 g35 g36 g37 g38 g39 g40 g41 g42 g43 g44 g45 g46 g47 g48 g49 g50 g51 g52 g53 g54 g55 g56 g57 g58 g59 g60 g61 g62 g63 g64 g65 g66 g67 g68 g70 g71 g72 g73 g74 g75 g76 g77 g78 g79 g80 g81 g82 g83 g84 : HV} (h : J4 k rec0 rec1 y0 y1 y5 y6 y7 y69 S = some p) : HRun Try.prog base W0 β0 20 none [.code c30, .inBlock 3, .code c33, .inLoop c14, .inBlock 2, .code c34, .inBlock 1, .inLoop c6, .inBlock 0] ⟨[(.ptr y0), (.int .i64 y1), g2, g3, g4, (Sl.hv y5), (.int .i64 y6), (.int .i64 y7), g8, g9, g10, g11, g12, g13, g14, g15, g16, g17, g18, g19, g20, g21, g22, g23, g24, g25, g26, g27, g28, g29, g30, g31, g32, g33, g34, g35, g36, g37, g38, g39, g40, g41, g42, g43, g44, g45, g46, g47, g48, g49, g50, g51, g52, g53, g54, g55, g56, g57, g58, g59, g60, g61, g62, g63, g64, g65, g66, g67, g68, (.bool y69), g70, g71, g72, g73, g74, g75, g76, g77, g78, g79, g80, g81, g82, g83, g84], []⟩ S (fun v S1 => v = (Sl.hv p.1) ∧ S1 = p.2) := by
  unfold J4 at h
  rcases ifc h with ⟨hc11, h⟩ | ⟨hc11, h⟩
  · refine q_cond_t rfl (.tmp rfl) hc11 ?_
    refine q_region rfl rfl ?_
    refine qS 70 rfl (ok_move · (.tmp rfl)) ?_
    refine qS 6 rfl (ok_assign · (.tmp rfl)) ?_
    refine hr_region_end ?_
    try dsimp only [w0, w1, w2, w3]
    refine hr_inBlock ?_
    try dsimp only [w0, w1, w2, w3]
    exact J3_snd hrec0 hrec1 h
  · refine q_cond_f rfl (.tmp rfl) (bfalse hc11) ?_
    refine q_skipc rfl ?_
    refine hr_inBlock ?_
    try dsimp only [w0, w1, w2, w3]
    exact J3_snd hrec0 hrec1 h
def J2 (k : Nat) (rec0 : (Option HA) → Int → Sl → Int → Int → HS → Option ((Sl) × HS)) (rec1 : (Option HA) → Int → Sl → HS → Option ((Sl) × HS)) (y0 : (Option HA)) (y1 : Int) (y5 : Sl) (y6 : Int) (y7 : Int) (y48 : Bool) (S : HS) : Option ((Sl) × HS) :=
  (if y48 = true then
  J3 k rec0 rec1 y0 y1 y5 y6 y7 S else
  (if y6 < 0 then
  J4 k rec0 rec1 y0 y1 y5 y6 y7 true S else
  (Option.bind (y0) fun p12 =>
  (Option.bind (HS.ldSl S (HA.fld p12 1)) fun p13 =>
  (Option.bind (HS.idx S p13 y7 2) fun p14 =>
  (Option.bind (HS.ldS S (HA.fld p14 1)) fun p15 =>
  (Option.bind (y0) fun p16 =>
  (Option.bind (HS.ldSl S (HA.fld p16 1)) fun p17 =>
  (Option.bind (HS.idx S p17 y6 2) fun p18 =>
  (Option.bind (HS.ldS S (HA.fld p18 1)) fun p19 =>
  J4 k rec0 rec1 y0 y1 y5 y6 y7 (slt p15 p19) S))))))))))
theorem J2_snd {k : Nat} {rec0 : (Option HA) → Int → Sl → Int → Int → HS → Option ((Sl) × HS)} {rec1 : (Option HA) → Int → Sl → HS → Option ((Sl) × HS)} (hrec0 : ∀ ⦃y0 : (Option HA)⦄ ⦃y1 : Int⦄ ⦃y5 : Sl⦄ ⦃y6 : Int⦄ ⦃y7 : Int⦄ ⦃S : HS⦄ ⦃p : (Sl) × HS⦄ ⦃g2 g3 g4 g8 g9 g10 g11 g12 g13 g14 g15 g16 g17 g18 g19 g20 g21 g22 g23 g24 g25 g26 g27 g28 g29 g30 g31 g32 g33 g34 g35 g36 g37 g38 g39 g40 g41 g42 g43 g44 g45 g46 g47 g48 g49 g50 g51 g52 g53 g54 g55 g56 g57 g58 g59 g60 g61 g62 g63 g64 g65 g66 g67 g68 g69 g70 g71 g72 g73 g74 g75 g76 g77 g78 g79 g80 g81 g82 g83 g84 : HV⦄, rec0 y0 y1 y5 y6 y7 S = some p → HRun Try.prog base W0 β0 20 none [.inLoop c14, .inBlock 2, .code c34, .inBlock 1, .inLoop c6, .inBlock 0] ⟨[(.ptr y0), (.int .i64 y1), g2, g3, g4, (Sl.hv y5), (.int .i64 y6), (.int .i64 y7), g8, g9, g10, g11, g12, g13, g14, g15, g16, g17, g18, g19, g20, g21, g22, g23, g24, g25, g26, g27, g28, g29, g30, g31, g32, g33, g34, g35, g36, g37, g38, g39, g40, g41, g42, g43, g44, g45, g46, g47, g48, g49, g50, g51, g52, g53, g54, g55, g56, g57, g58, g59, g60, g61, g62, g63, g64, g65, g66, g67, g68, g69, g70, g71, g72, g73, g74, g75, g76, g77, g78, g79, g80, g81, g82, g83, g84], []⟩ S (fun v S1 => v = (Sl.hv p.1) ∧ S1 = p.2)) (hrec1 : ∀ ⦃y0 : (Option HA)⦄ ⦃y1 : Int⦄ ⦃y5 : Sl⦄ ⦃S : HS⦄ ⦃p : (Sl) × HS⦄ ⦃g2 g3 g4 g6 g7 g8 g9 g10 g11 g12 g13 g14 g15 g16 g17 g18 g19 g20 g21 g22 g23 g24 g25 g26 g27 g28 g29 g30 g31 g32 g33 g34 g35 g36 g37 g38 g39 g40 g41 g42 g43 g44 g45 g46 g47 g48 g49 g50 g51 g52 g53 g54 g55 g56 g57 g58 g59 g60 g61 g62 g63 g64 g65 g66 g67 g68 g69 g70 g71 g72 g73 g74 g75 g76 g77 g78 g79 g80 g81 g82 g83 g84 : HV⦄, rec1 y0 y1 y5 S = some p → HRun Try.prog base W0 β0 20 none [.inLoop c6, .inBlock 0] ⟨[(.ptr y0), (.int .i64 y1), g2, g3, g4, (Sl.hv y5), g6, g7, g8, g9, g10, g11, g12, g13, g14, g15, g16, g17, g18, g19, g20, g21, g22, g23, g24, g25, g26, g27, g28, g29, g30, g31, g32, g33, g34, g35, g36, g37, g38, g39, g40, g41, g42, g43, g44, g45, g46, g47, g48, g49, g50, g51, g52, g53, g54, g55, g56, g57, g58, g59, g60, g61, g62, g63, g64, g65, g66, g67, g68, g69, g70, g71, g72, g73, g74, g75, g76, g77, g78, g79, g80, g81, g82, g83, g84], []⟩ S (fun v S1 => v = (Sl.hv p.1) ∧ S1 = p.2)) {y0 : (Option HA)} {y1 : Int} {y5 : Sl} {y6 : Int} {y7 : Int} {y48 : Bool} {S : HS} {p : (Sl) × HS} {g2 g3 g4 g8 g9 g10 g11 g12 g13 g14 g15 g16 g17 g18 g19 g20 g21 g22 g23 g24 g25 g26 g27 g28 g29 g30 g31 g32 g33 g34 g35 g36 g37 g38 g39 g40 g41 g42 g43 g44 g45 g46 g47 g49 g50 g51 g52 g53 g54 g55 g56 g57 g58 g59 g60 g61 g62 g63 g64 g65 g66 g67 g68 g69 g70 g71 g72 g73 g74 g75 g76 g77 g78 g79 g80 g81 g82 g83 g84 : HV} (h : J2 k rec0 rec1 y0 y1 y5 y6 y7 y48 S = some p) : HRun Try.prog base W0 β0 20 none [.code c25, .code c28, .inBlock 3, .code c33, .inLoop c14, .inBlock 2, .code c34, .inBlock 1, .inLoop c6, .inBlock 0] ⟨[(.ptr y0), (.int .i64 y1), g2, g3, g4, (Sl.hv y5), (.int .i64 y6), (.int .i64 y7), g8, g9, g10, g11, g12, g13, g14, g15, g16, g17, g18, g19, g20, g21, g22, g23, g24, g25, g26, g27, g28, g29, g30, g31, g32, g33, g34, g35, g36, g37, g38, g39, g40, g41, g42, g43, g44, g45, g46, g47, (.bool y48), g49, g50, g51, g52, g53, g54, g55, g56, g57, g58, g59, g60, g61, g62, g63, g64, g65, g66, g67, g68, g69, g70, g71, g72, g73, g74, g75, g76, g77, g78, g79, g80, g81, g82, g83, g84], []⟩ S (fun v S1 => v = (Sl.hv p.1) ∧ S1 = p.2) := by
  unfold J2 at h
  rcases ifc h with ⟨hc9, h⟩ | ⟨hc9, h⟩
  · refine q_cond_t rfl (.tmp rfl) hc9 ?_
    refine q_exit rfl rfl ?_
    try dsimp only [w0, w1, w2, w3]
    exact J3_snd hrec0 hrec1 h
  · refine q_cond_f rfl (.tmp rfl) (bfalse hc9) ?_
    refine q_skipc rfl ?_
    refine q_seq rfl ?_
    refine x_start (cls := [0, 0, 0, 0, 0, 0, 1, 0, 1, 0, 1, 0, 0, 0, 1, 0, 1, 0, 1, 0, 0]) (rk := [0, 1, 2, 3, 4, 5, 6, 7, 8, 9, 10, 11, 12, 13, 14, 15, 16, 17, 18, 19, 20]) rfl (by kernel_rfl) ?_
    refine yf 49 [6] rfl (ok_move · (.tmp rfl)) ?_
    refine yf 50 [49] rfl (ok_ibin · (.tmp rfl) (.int _ _) rfl) ?_
    refine yf 51 [50] rfl (ok_move · (.tmp rfl)) ?_
    rcases ifc h with ⟨hc10, h⟩ | ⟨hc10, h⟩
    · refine yfs 52 51 [0, 51] rfl (decide_eq_true hc10) ?_
      try dsimp only [w0, w1, w2, w3]
      refine yfs 53 51 [52, 51] rfl (decide_eq_true hc10) ?_
      refine yfs 54 51 [53, 51] rfl (decide_eq_true hc10) ?_
      refine yrs 55 51 [54, 51] rfl (decide_eq_true hc10) ?_
      refine yfs 56 51 [7, 51] rfl (decide_eq_true hc10) ?_
      try dsimp only [w0, w1, w2, w3]
      refine yrs 57 51 [55, 56, 51] rfl (decide_eq_true hc10) ?_
      refine yfs 58 51 [57, 51] rfl (decide_eq_true hc10) ?_
      refine yrs 59 51 [58, 51] rfl (decide_eq_true hc10) ?_
      refine yfs 60 51 [0, 51] rfl (decide_eq_true hc10) ?_
      try dsimp only [w0, w1, w2, w3]
      refine yfs 61 51 [60, 51] rfl (decide_eq_true hc10) ?_
      refine yfs 62 51 [61, 51] rfl (decide_eq_true hc10) ?_
      refine yrs 63 51 [62, 51] rfl (decide_eq_true hc10) ?_
      refine yfs 64 51 [6, 51] rfl (decide_eq_true hc10) ?_
      try dsimp only [w0, w1, w2, w3]
      refine yrs 65 51 [63, 64, 51] rfl (decide_eq_true hc10) ?_
      refine yfs 66 51 [65, 51] rfl (decide_eq_true hc10) ?_
      refine yrs 67 51 [66, 51] rfl (decide_eq_true hc10) ?_
      refine yfs 68 51 [59, 67, 51] rfl (decide_eq_true hc10) ?_
      try dsimp only [w0, w1, w2, w3]
      refine yf 69 [51, 68] rfl (ok_pick_tt · (.tmp rfl) (decide_eq_true hc10) (.bool _)) ?_
      refine x_rest rfl ?_
      refine hr_region_end ?_
      try dsimp only [w0, w1, w2, w3]
      try dsimp only [w0, w1, w2, w3]
      exact J4_snd hrec0 hrec1 h
    · refine yfg 52 51 [0, 51] rfl (decide_eq_false hc10) (ok_move · (.tmp rfl)) ?_
      try dsimp only [w0, w1, w2, w3]
      obtain ⟨p12, hp12, h⟩ := bindo h
      refine yfg 53 51 [52, 51] rfl (decide_eq_false hc10) (ok_nilCheck_p · (.tmp rfl) hp12) ?_
      refine yfg 54 51 [53, 51] rfl (decide_eq_false hc10) (ok_fieldAddr_s · fi32_1 (by decide) (.tmp rfl) rfl) ?_
      obtain ⟨p13, hp13, h⟩ := bindo h
      refine yrg 55 51 [54, 51] rfl (decide_eq_false hc10) (ok_load_s · sc30 (.tmp rfl) rfl (ldSl_out hp13)) ?_
      refine yfg 56 51 [7, 51] rfl (decide_eq_false hc10) (ok_move · (.tmp rfl)) ?_
      try dsimp only [w0, w1, w2, w3]
      obtain ⟨p14, hp14, h⟩ := bindo h
      refine yrg 57 51 [55, 56, 51] rfl (decide_eq_false hc10) (ok_indexAddr (s := p13) · tu30 sz70 (.tmp rfl) (.tmp rfl) hp14) ?_
      refine yfg 58 51 [57, 51] rfl (decide_eq_false hc10) (ok_fieldAddr_s · fi70_1 (by decide) (.tmp rfl) rfl) ?_
      obtain ⟨p15, hp15, h⟩ := bindo h
      refine yrg 59 51 [58, 51] rfl (decide_eq_false hc10) (ok_load_s · sc9 (.tmp rfl) rfl (ldS_out hp15)) ?_
      refine yfg 60 51 [0, 51] rfl (decide_eq_false hc10) (ok_move · (.tmp rfl)) ?_
      try dsimp only [w0, w1, w2, w3]
      obtain ⟨p16, hp16, h⟩ := bindo h
      refine yfg 61 51 [60, 51] rfl (decide_eq_false hc10) (ok_nilCheck_p · (.tmp rfl) hp16) ?_
      refine yfg 62 51 [61, 51] rfl (decide_eq_false hc10) (ok_fieldAddr_s · fi32_1 (by decide) (.tmp rfl) rfl) ?_
      obtain ⟨p17, hp17, h⟩ := bindo h
      refine yrg 63 51 [62, 51] rfl (decide_eq_false hc10) (ok_load_s · sc30 (.tmp rfl) rfl (ldSl_out hp17)) ?_
      refine yfg 64 51 [6, 51] rfl (decide_eq_false hc10) (ok_move · (.tmp rfl)) ?_
      try dsimp only [w0, w1, w2, w3]
      obtain ⟨p18, hp18, h⟩ := bindo h
      refine yrg 65 51 [63, 64, 51] rfl (decide_eq_false hc10) (ok_indexAddr (s := p17) · tu30 sz70 (.tmp rfl) (.tmp rfl) hp18) ?_
      refine yfg 66 51 [65, 51] rfl (decide_eq_false hc10) (ok_fieldAddr_s · fi70_1 (by decide) (.tmp rfl) rfl) ?_
      obtain ⟨p19, hp19, h⟩ := bindo h
      refine yrg 67 51 [66, 51] rfl (decide_eq_false hc10) (ok_load_s · sc9 (.tmp rfl) rfl (ldS_out hp19)) ?_
      refine yfg 68 51 [59, 67, 51] rfl (decide_eq_false hc10) (ok_sbin · (.tmp rfl) (.tmp rfl) rfl) ?_
      try dsimp only [w0, w1, w2, w3]
      refine yf 69 [51, 68] rfl (ok_pick_ff · (.tmp rfl) (decide_eq_false hc10) (.tmp rfl)) ?_
      refine x_rest rfl ?_
      refine hr_region_end ?_
      try dsimp only [w0, w1, w2, w3]
      try dsimp only [w0, w1, w2, w3]
      exact J4_snd hrec0 hrec1 h
def L1 (k : Nat) (rec0 : (Option HA) → Int → Sl → HS → Option ((Sl) × HS)) : Nat → (Option HA) → Int → Sl → Int → Int → HS → Option ((Sl) × HS)
  | 0, _, _, _, _, _, _ => none
  | n + 1, y0, y1, y5, y6, y7, S =>
    (Option.bind (y0) fun p1 =>
    (Option.bind (HS.ldSl S (HA.fld p1 1)) fun p2 =>
    (if y7 < (Sl.len p2 : Int) then
    (Option.bind (y0) fun p4 =>
    (Option.bind (HS.ldSl S (HA.fld p4 1)) fun p5 =>
    (Option.bind (HS.idx S p5 y7 2) fun p6 =>
    (Option.bind (HS.ldI S .i64 (HA.fld p6 0)) fun p7 =>
    (if (!decide (p7 = y1)) = true then
    J2 k (L1 k rec0 n) rec0 y0 y1 y5 y6 y7 true S else
    (if (Sl.len y5 : Int) > 0 then
    (Option.bind (y0) fun p21 =>
    (Option.bind (HS.ldSl S (HA.fld p21 1)) fun p22 =>
    (Option.bind (HS.idx S p22 y7 2) fun p23 =>
    (Option.bind (HS.ldS S (HA.fld p23 1)) fun p24 =>
    (Option.bind (HS.idx S y5 (w64 ((Sl.len y5 : Int) - 1)) 1) fun p25 =>
    (Option.bind (HS.ldS S p25) fun p26 =>
    J2 k (L1 k rec0 n) rec0 y0 y1 y5 y6 y7 (slt p24 p26 || decide (p24 = p26)) S)))))) else
    J2 k (L1 k rec0 n) rec0 y0 y1 y5 y6 y7 false S)))))) else
    (if y6 < 0 then
    some (y5, S) else
    (Option.bind (y0) fun p28 =>
    (Option.bind (HS.ldSl S (HA.fld p28 1)) fun p29 =>
    (Option.bind (HS.idx S p29 y6 2) fun p30 =>
    (Option.bind (HS.ldS S (HA.fld p30 1)) fun p31 =>
    (letv (HS.lit S [[(.str p31)]] 1) fun p32 =>
    (Option.bind (HS.rows (p32.2) (p32.1) 1) fun p33 =>
    (Option.bind (HS.app (p32.2) y5 p33 1) fun p34 =>
    rec0 y0 y1 (p34.1) (p34.2))))))))))))
theorem L1_snd {k : Nat} {rec0 : (Option HA) → Int → Sl → HS → Option ((Sl) × HS)} (hrec0 : ∀ ⦃y0 : (Option HA)⦄ ⦃y1 : Int⦄ ⦃y5 : Sl⦄ ⦃S : HS⦄ ⦃p : (Sl) × HS⦄ ⦃g2 g3 g4 g6 g7 g8 g9 g10 g11 g12 g13 g14 g15 g16 g17 g18 g19 g20 g21 g22 g23 g24 g25 g26 g27 g28 g29 g30 g31 g32 g33 g34 g35 g36 g37 g38 g39 g40 g41 g42 g43 g44 g45 g46 g47 g48 g49 g50 g51 g52 g53 g54 g55 g56 g57 g58 g59 g60 g61 g62 g63 g64 g65 g66 g67 g68 g69 g70 g71 g72 g73 g74 g75 g76 g77 g78 g79 g80 g81 g82 g83 g84 : HV⦄, rec0 y0 y1 y5 S = some p → HRun Try.prog base W0 β0 20 none [.inLoop c6, .inBlock 0] ⟨[(.ptr y0), (.int .i64 y1), g2, g3, g4, (Sl.hv y5), g6, g7, g8, g9, g10, g11, g12, g13, g14, g15, g16, g17, g18, g19, g20, g21, g22, g23, g24, g25, g26, g27, g28, g29, g30, g31, g32, g33, g34, g35, g36, g37, g38, g39, g40, g41, g42, g43, g44, g45, g46, g47, g48, g49, g50, g51, g52, g53, g54, g55, g56, g57, g58, g59, g60, g61, g62, g63, g64, g65, g66, g67, g68, g69, g70, g71, g72, g73, g74, g75, g76, g77, g78, g79, g80, g81, g82, g83, g84], []⟩ S (fun v S1 => v = (Sl.hv p.1) ∧ S1 = p.2)) : ∀ {n : Nat} ⦃y0 : (Option HA)⦄ ⦃y1 : Int⦄ ⦃y5 : Sl⦄ ⦃y6 : Int⦄ ⦃y7 : Int⦄ ⦃S : HS⦄ ⦃p : (Sl) × HS⦄ ⦃g2 g3 g4 g8 g9 g10 g11 g12 g13 g14 g15 g16 g17 g18 g19 g20 g21 g22 g23 g24 g25 g26 g27 g28 g29 g30 g31 g32 g33 g34 g35 g36 g37 g38 g39 g40 g41 g42 g43 g44 g45 g46 g47 g48 g49 g50 g51 g52 g53 g54 g55 g56 g57 g58 g59 g60 g61 g62 g63 g64 g65 g66 g67 g68 g69 g70 g71 g72 g73 g74 g75 g76 g77 g78 g79 g80 g81 g82 g83 g84 : HV⦄, L1 k rec0 n y0 y1 y5 y6 y7 S = some p → HRun Try.prog base W0 β0 20 none [.inLoop c14, .inBlock 2, .code c34, .inBlock 1, .inLoop c6, .inBlock 0] ⟨[(.ptr y0), (.int .i64 y1), g2, g3, g4, (Sl.hv y5), (.int .i64 y6), (.int .i64 y7), g8, g9, g10, g11, g12, g13, g14, g15, g16, g17, g18, g19, g20, g21, g22, g23, g24, g25, g26, g27, g28, g29, g30, g31, g32, g33, g34, g35, g36, g37, g38, g39, g40, g41, g42, g43, g44, g45, g46, g47, g48, g49, g50, g51, g52, g53, g54, g55, g56, g57, g58, g59, g60, g61, g62, g63, g64, g65, g66, g67, g68, g69, g70, g71, g72, g73, g74, g75, g76, g77, g78, g79, g80, g81, g82, g83, g84], []⟩ S (fun v S1 => v = (Sl.hv p.1) ∧ S1 = p.2) := by
  intro n
  induction n with
  | zero => intro _ _ _ _ _ _ _ _ _ _ _ _ _ _ _ _ _ _ _ _ _ _ _ _ _ _ _ _ _ _ _ _ _ _ _ _ _ _ _ _ _ _ _ _ _ _ _ _ _ _ _ _ _ _ _ _ _ _ _ _ _ _ _ _ _ _ _ _ _ _ _ _ _ _ _ _ _ _ _ _ _ _ _ _ _ _ _ h; cases h
  | succ n ih =>
    intro y0 y1 y5 y6 y7 S p g2 g3 g4 g8 g9 g10 g11 g12 g13 g14 g15 g16 g17 g18 g19 g20 g21 g22 g23 g24 g25 g26 g27 g28 g29 g30 g31 g32 g33 g34 g35 g36 g37 g38 g39 g40 g41 g42 g43 g44 g45 g46 g47 g48 g49 g50 g51 g52 g53 g54 g55 g56 g57 g58 g59 g60 g61 g62 g63 g64 g65 g66 g67 g68 g69 g70 g71 g72 g73 g74 g75 g76 g77 g78 g79 g80 g81 g82 g83 g84 h
    simp only [L1] at h
    refine hr_inLoop ?_
    refine q_seq rfl ?_
    refine q_seq rfl ?_
    refine q_region rfl rfl ?_
    refine qS 8 rfl (ok_move · (.tmp rfl)) ?_
    refine qS 9 rfl (ok_move · (.tmp rfl)) ?_
    obtain ⟨p1, hp1, h⟩ := bindo h
    refine qS 10 rfl (ok_nilCheck_p · (.tmp rfl) hp1) ?_
    refine qS 11 rfl (ok_fieldAddr_s · fi32_1 (by decide) (.tmp rfl) rfl) ?_
    try dsimp only [w0, w1, w2, w3]
    obtain ⟨p2, hp2, h⟩ := bindo h
    refine qS 12 rfl (ok_load_s · sc30 (.tmp rfl) rfl (ldSl_out hp2)) ?_
    refine qS 13 rfl (ok_len_sl (q := Sl.a p2) (n := Sl.len p2) (z := Sl.cap p2) · rfl tu30 (.tmp rfl)) ?_
    refine qS 14 rfl (ok_ibin · (.tmp rfl) (.tmp rfl) rfl) ?_
    refine hr_region_end ?_
    try dsimp only [w0, w1, w2, w3]
    rcases ifc h with ⟨hc3, h⟩ | ⟨hc3, h⟩
    · refine q_cond_t rfl (.tmp rfl) (decide_eq_true hc3) ?_
      refine q_skipc rfl ?_
      refine q_seq rfl ?_
      refine q_block rfl ?_
      refine q_seq rfl ?_
      refine q_seq rfl ?_
      refine x_start (cls := [0, 0, 0, 1, 0, 1, 0, 1, 0, 0, 0, 0, 0, 0, 0, 0, 0, 0, 1, 0, 1, 0, 1, 0, 0, 0, 0, 1, 1, 0, 0, 0]) (rk := [0, 1, 2, 3, 4, 5, 6, 7, 8, 9, 10, 11, 12, 13, 14, 15, 16, 17, 18, 19, 20, 21, 22, 23, 24, 25, 26, 27, 28, 29, 30, 31]) rfl (by kernel_rfl) ?_
      refine yf 17 [0] rfl (ok_move · (.tmp rfl)) ?_
      obtain ⟨p4, hp4, h⟩ := bindo h
      refine yf 18 [17] rfl (ok_nilCheck_p · (.tmp rfl) hp4) ?_
      refine yf 19 [18] rfl (ok_fieldAddr_s · fi32_1 (by decide) (.tmp rfl) rfl) ?_
      obtain ⟨p5, hp5, h⟩ := bindo h
      refine yr 20 [19] rfl (ok_load_s · sc30 (.tmp rfl) rfl (ldSl_out hp5)) ?_
      try dsimp only [w0, w1, w2, w3]
      refine yf 21 [7] rfl (ok_move · (.tmp rfl)) ?_
      obtain ⟨p6, hp6, h⟩ := bindo h
      refine yr 22 [20, 21] rfl (ok_indexAddr (s := p5) · tu30 sz70 (.tmp rfl) (.tmp rfl) hp6) ?_
      refine yf 23 [22] rfl (ok_fieldAddr_s · fi70_0 (by decide) (.tmp rfl) rfl) ?_
      obtain ⟨p7, hp7, h⟩ := bindo h
      refine yr 24 [23] rfl (ok_load_s · sc3 (.tmp rfl) rfl (ldI_out hp7)) ?_
      try dsimp only [w0, w1, w2, w3]
      refine yf 25 [1] rfl (ok_move · (.tmp rfl)) ?_
      refine yf 26 [24, 25] rfl (ok_ibin · (.tmp rfl) (.tmp rfl) rfl) ?_
      refine yf 27 [26] rfl (ok_move · (.tmp rfl)) ?_
      rcases ifc h with ⟨hc8, h⟩ | ⟨hc8, h⟩
      · refine yfs 28 27 [5, 27] rfl hc8 ?_
        try dsimp only [w0, w1, w2, w3]
        refine yfs 29 27 [28, 27] rfl hc8 ?_
        refine yfs 30 27 [29, 27] rfl hc8 ?_
        refine yfs 31 27 [30, 27] rfl hc8 ?_
        refine x_go (f_skip_u (dst := some 32) (t := 31) (ts := [0, 31]) rfl (by kernel_rfl) rfl rfl) rfl ?_
        try dsimp only [w0, w1, w2, w3]
        refine x_go (f_skip_u (dst := some 33) (t := 31) (ts := [32, 31]) rfl (by kernel_rfl) rfl rfl) rfl ?_
        refine x_go (f_skip_u (dst := some 34) (t := 31) (ts := [33, 31]) rfl (by kernel_rfl) rfl rfl) rfl ?_
        refine x_go (r_skip_u (dst := some 35) (t := 31) (ts := [34, 31]) rfl (by kernel_rfl) rfl rfl) rfl ?_
        refine x_go (f_skip_u (dst := some 36) (t := 31) (ts := [7, 31]) rfl (by kernel_rfl) rfl rfl) rfl ?_
        try dsimp only [w0, w1, w2, w3]
        refine x_go (r_skip_u (dst := some 37) (t := 31) (ts := [35, 36, 31]) rfl (by kernel_rfl) rfl rfl) rfl ?_
        refine x_go (f_skip_u (dst := some 38) (t := 31) (ts := [37, 31]) rfl (by kernel_rfl) rfl rfl) rfl ?_
        refine x_go (r_skip_u (dst := some 39) (t := 31) (ts := [38, 31]) rfl (by kernel_rfl) rfl rfl) rfl ?_
        refine x_go (f_skip_u (dst := some 40) (t := 31) (ts := [5, 31]) rfl (by kernel_rfl) rfl rfl) rfl ?_
        try dsimp only [w0, w1, w2, w3]
        refine x_go (f_skip_u (dst := some 41) (t := 31) (ts := [5, 31]) rfl (by kernel_rfl) rfl rfl) rfl ?_
        refine x_go (f_skip_u (dst := some 42) (t := 31) (ts := [41, 31]) rfl (by kernel_rfl) rfl rfl) rfl ?_
        refine x_go (f_skip_u (dst := some 43) (t := 31) (ts := [42, 31]) rfl (by kernel_rfl) rfl rfl) rfl ?_
        refine x_go (r_skip_u (dst := some 44) (t := 31) (ts := [40, 43, 31]) rfl (by kernel_rfl) rfl rfl) rfl ?_
        try dsimp only [w0, w1, w2, w3]
        refine x_go (r_skip_u (dst := some 45) (t := 31) (ts := [44, 31]) rfl (by kernel_rfl) rfl rfl) rfl ?_
        refine x_go (f_skip_u (dst := some 46) (t := 31) (ts := [39, 45, 31]) rfl (by kernel_rfl) rfl rfl) rfl ?_
        refine yfs 47 27 [31, 46, 27] rfl hc8 ?_
        refine yf 48 [27, 47] rfl (ok_pick_tt · (.tmp rfl) hc8 (.bool _)) ?_
        refine x_rest rfl ?_
        refine hr_region_end ?_
        try dsimp only [w0, w1, w2, w3]
        try dsimp only [w0, w1, w2, w3]
        exact J2_snd ih hrec0 h
      · refine yfg 28 27 [5, 27] rfl (bfalse hc8) (ok_move · (.tmp rfl)) ?_
        try dsimp only [w0, w1, w2, w3]
        refine yfg 29 27 [28, 27] rfl (bfalse hc8) (ok_len_sl (q := Sl.a y5) (n := Sl.len y5) (z := Sl.cap y5) · rfl tu40 (.tmp rfl)) ?_
        refine yfg 30 27 [29, 27] rfl (bfalse hc8) (ok_ibin · (.tmp rfl) (.int _ _) rfl) ?_
        refine yfg 31 27 [30, 27] rfl (bfalse hc8) (ok_move · (.tmp rfl)) ?_
        rcases ifc h with ⟨hc20, h⟩ | ⟨hc20, h⟩
        · refine yfg 32 31 [0, 31] rfl (decide_eq_true hc20) (ok_move · (.tmp rfl)) ?_
          try dsimp only [w0, w1, w2, w3]
          obtain ⟨p21, hp21, h⟩ := bindo h
          refine yfg 33 31 [32, 31] rfl (decide_eq_true hc20) (ok_nilCheck_p · (.tmp rfl) hp21) ?_
          refine yfg 34 31 [33, 31] rfl (decide_eq_true hc20) (ok_fieldAddr_s · fi32_1 (by decide) (.tmp rfl) rfl) ?_
          obtain ⟨p22, hp22, h⟩ := bindo h
          refine yrg 35 31 [34, 31] rfl (decide_eq_true hc20) (ok_load_s · sc30 (.tmp rfl) rfl (ldSl_out hp22)) ?_
          refine yfg 36 31 [7, 31] rfl (decide_eq_true hc20) (ok_move · (.tmp rfl)) ?_
          try dsimp only [w0, w1, w2, w3]
          obtain ⟨p23, hp23, h⟩ := bindo h
          refine yrg 37 31 [35, 36, 31] rfl (decide_eq_true hc20) (ok_indexAddr (s := p22) · tu30 sz70 (.tmp rfl) (.tmp rfl) hp23) ?_
          refine yfg 38 31 [37, 31] rfl (decide_eq_true hc20) (ok_fieldAddr_s · fi70_1 (by decide) (.tmp rfl) rfl) ?_
          obtain ⟨p24, hp24, h⟩ := bindo h
          refine yrg 39 31 [38, 31] rfl (decide_eq_true hc20) (ok_load_s · sc9 (.tmp rfl) rfl (ldS_out hp24)) ?_
          refine yfg 40 31 [5, 31] rfl (decide_eq_true hc20) (ok_move · (.tmp rfl)) ?_
          try dsimp only [w0, w1, w2, w3]
          refine yfg 41 31 [5, 31] rfl (decide_eq_true hc20) (ok_move · (.tmp rfl)) ?_
          refine yfg 42 31 [41, 31] rfl (decide_eq_true hc20) (ok_len_sl (q := Sl.a y5) (n := Sl.len y5) (z := Sl.cap y5) · rfl tu40 (.tmp rfl)) ?_
          refine yfg 43 31 [42, 31] rfl (decide_eq_true hc20) (ok_ibin · (.tmp rfl) (.int _ _) rfl) ?_
          obtain ⟨p25, hp25, h⟩ := bindo h
          refine yrg 44 31 [40, 43, 31] rfl (decide_eq_true hc20) (ok_indexAddr (s := y5) · tu40 sz9 (.tmp rfl) (.tmp rfl) hp25) ?_
          try dsimp only [w0, w1, w2, w3]
          obtain ⟨p26, hp26, h⟩ := bindo h
          refine yrg 45 31 [44, 31] rfl (decide_eq_true hc20) (ok_load_s · sc9 (.tmp rfl) rfl (ldS_out hp26)) ?_
          refine yfg 46 31 [39, 45, 31] rfl (decide_eq_true hc20) (ok_sbin · (.tmp rfl) (.tmp rfl) rfl) ?_
          refine yfg 47 27 [31, 46, 27] rfl (bfalse hc8) (ok_pick_tt · (.tmp rfl) (decide_eq_true hc20) (.tmp rfl)) ?_
          refine yf 48 [27, 47] rfl (ok_pick_ff · (.tmp rfl) (bfalse hc8) (.tmp rfl)) ?_
          refine x_rest rfl ?_
          refine hr_region_end ?_
          try dsimp only [w0, w1, w2, w3]
          try dsimp only [w0, w1, w2, w3]
          exact J2_snd ih hrec0 h
        · refine yfs 32 31 [0, 31] rfl (decide_eq_false hc20) ?_
          try dsimp only [w0, w1, w2, w3]
          refine yfs 33 31 [32, 31] rfl (decide_eq_false hc20) ?_
          refine yfs 34 31 [33, 31] rfl (decide_eq_false hc20) ?_
          refine yrs 35 31 [34, 31] rfl (decide_eq_false hc20) ?_
          refine yfs 36 31 [7, 31] rfl (decide_eq_false hc20) ?_
          try dsimp only [w0, w1, w2, w3]
          refine yrs 37 31 [35, 36, 31] rfl (decide_eq_false hc20) ?_
          refine yfs 38 31 [37, 31] rfl (decide_eq_false hc20) ?_
          refine yrs 39 31 [38, 31] rfl (decide_eq_false hc20) ?_
          refine yfs 40 31 [5, 31] rfl (decide_eq_false hc20) ?_
          try dsimp only [w0, w1, w2, w3]
          refine yfs 41 31 [5, 31] rfl (decide_eq_false hc20) ?_
          refine yfs 42 31 [41, 31] rfl (decide_eq_false hc20) ?_
          refine yfs 43 31 [42, 31] rfl (decide_eq_false hc20) ?_
          refine yrs 44 31 [40, 43, 31] rfl (decide_eq_false hc20) ?_
          try dsimp only [w0, w1, w2, w3]
          refine yrs 45 31 [44, 31] rfl (decide_eq_false hc20) ?_
          refine yfs 46 31 [39, 45, 31] rfl (decide_eq_false hc20) ?_
          refine yfg 47 27 [31, 46, 27] rfl (bfalse hc8) (ok_pick_ff · (.tmp rfl) (decide_eq_false hc20) (.bool _)) ?_
          refine yf 48 [27, 47] rfl (ok_pick_ff · (.tmp rfl) (bfalse hc8) (.tmp rfl)) ?_
          refine x_rest rfl ?_
          refine hr_region_end ?_
          try dsimp only [w0, w1, w2, w3]
          try dsimp only [w0, w1, w2, w3]
          exact J2_snd ih hrec0 h
    · refine q_cond_f rfl (.tmp rfl) (decide_eq_false hc3) ?_
      refine q_exit rfl rfl ?_
      refine q_seq rfl ?_
      refine q_seq rfl ?_
      refine q_region rfl rfl ?_
      refine qS 71 rfl (ok_move · (.tmp rfl)) ?_
      refine qS 72 rfl (ok_ibin · (.tmp rfl) (.int _ _) rfl) ?_
      refine hr_region_end ?_
      try dsimp only [w0, w1, w2, w3]
      rcases ifc h with ⟨hc27, h⟩ | ⟨hc27, h⟩
      · refine q_cond_t rfl (.tmp rfl) (decide_eq_true hc27) ?_
        refine q_seq rfl ?_
        refine q_region rfl rfl ?_
        refine qS 73 rfl (ok_move · (.tmp rfl)) ?_
        refine qS 4 rfl (ok_assign · (.tmp rfl)) ?_
        refine hr_region_end ?_
        try dsimp only [w0, w1, w2, w3]
        cases h
        exact q_ret rfl at_.at_ rfl (res1 rfl rfl) ⟨rfl, rfl⟩
      · refine q_cond_f rfl (.tmp rfl) (decide_eq_false hc27) ?_
        refine q_skipc rfl ?_
        refine q_region rfl rfl ?_
        refine qS 74 rfl (ok_move · (.tmp rfl)) ?_
        refine qS 75 rfl (ok_move · (.tmp rfl)) ?_
        obtain ⟨p28, hp28, h⟩ := bindo h
        refine qS 76 rfl (ok_nilCheck_p · (.tmp rfl) hp28) ?_
        refine qS 77 rfl (ok_fieldAddr_s · fi32_1 (by decide) (.tmp rfl) rfl) ?_
        try dsimp only [w0, w1, w2, w3]
        obtain ⟨p29, hp29, h⟩ := bindo h
        refine qS 78 rfl (ok_load_s · sc30 (.tmp rfl) rfl (ldSl_out hp29)) ?_
        refine qS 79 rfl (ok_move · (.tmp rfl)) ?_
        obtain ⟨p30, hp30, h⟩ := bindo h
        refine qS 80 rfl (ok_indexAddr (s := p29) · tu30 sz70 (.tmp rfl) (.tmp rfl) hp30) ?_
        refine qS 81 rfl (ok_fieldAddr_s · fi70_1 (by decide) (.tmp rfl) rfl) ?_
        try dsimp only [w0, w1, w2, w3]
        obtain ⟨p31, hp31, h⟩ := bindo h
        refine qS 82 rfl (ok_load_s · sc9 (.tmp rfl) rfl (ldS_out hp31)) ?_
        obtain ⟨p32, hp32, h⟩ := leto h
        refine qS 83 rfl (ok_buildSlice_s (xs := [(.tmp 82)]) el40 · rfl rfl (by decide) (.cons (.tmp rfl) Evs.nil) rfl rfl hp32) ?_
        obtain ⟨p33, hp33, h⟩ := bindo h
        obtain ⟨p34, hp34, h⟩ := bindo h
        refine qS 84 rfl (ok_append (s := y5) (s1 := (p32.1)) el40 · rfl rfl ⟨_, tu40⟩ (.tmp rfl) (.tmp rfl) hp33 hp34) ?_
        refine qS 5 rfl (ok_assign · (.tmp rfl)) ?_
        refine hr_region_end ?_
        try dsimp only [w0, w1, w2, w3]
        refine hr_inBlock ?_
        try dsimp only [w0, w1, w2, w3]
        exact hrec0 h
def L0 (k : Nat) : Nat → (Option HA) → Int → Sl → HS → Option ((Sl) × HS)
  | 0, _, _, _, _ => none
  | n + 1, y0, y1, y5, S =>
    L1 k (L0 k n) k y0 y1 y5 (-1) 0 S
theorem L0_snd {k : Nat}  : ∀ {n : Nat} ⦃y0 : (Option HA)⦄ ⦃y1 : Int⦄ ⦃y5 : Sl⦄ ⦃S : HS⦄ ⦃p : (Sl) × HS⦄ ⦃g2 g3 g4 g6 g7 g8 g9 g10 g11 g12 g13 g14 g15 g16 g17 g18 g19 g20 g21 g22 g23 g24 g25 g26 g27 g28 g29 g30 g31 g32 g33 g34 g35 g36 g37 g38 g39 g40 g41 g42 g43 g44 g45 g46 g47 g48 g49 g50 g51 g52 g53 g54 g55 g56 g57 g58 g59 g60 g61 g62 g63 g64 g65 g66 g67 g68 g69 g70 g71 g72 g73 g74 g75 g76 g77 g78 g79 g80 g81 g82 g83 g84 : HV⦄, L0 k n y0 y1 y5 S = some p → HRun Try.prog base W0 β0 20 none [.inLoop c6, .inBlock 0] ⟨[(.ptr y0), (.int .i64 y1), g2, g3, g4, (Sl.hv y5), g6, g7, g8, g9, g10, g11, g12, g13, g14, g15, g16, g17, g18, g19, g20, g21, g22, g23, g24, g25, g26, g27, g28, g29, g30, g31, g32, g33, g34, g35, g36, g37, g38, g39, g40, g41, g42, g43, g44, g45, g46, g47, g48, g49, g50, g51, g52, g53, g54, g55, g56, g57, g58, g59, g60, g61, g62, g63, g64, g65, g66, g67, g68, g69, g70, g71, g72, g73, g74, g75, g76, g77, g78, g79, g80, g81, g82, g83, g84], []⟩ S (fun v S1 => v = (Sl.hv p.1) ∧ S1 = p.2) := by
  intro n
  induction n with
  | zero => intro _ _ _ _ _ _ _ _ _ _ _ _ _ _ _ _ _ _ _ _ _ _ _ _ _ _ _ _ _ _ _ _ _ _ _ _ _ _ _ _ _ _ _ _ _ _ _ _ _ _ _ _ _ _ _ _ _ _ _ _ _ _ _ _ _ _ _ _ _ _ _ _ _ _ _ _ _ _ _ _ _ _ _ _ _ _ _ h; cases h
  | succ n ih =>
    intro y0 y1 y5 S p g2 g3 g4 g6 g7 g8 g9 g10 g11 g12 g13 g14 g15 g16 g17 g18 g19 g20 g21 g22 g23 g24 g25 g26 g27 g28 g29 g30 g31 g32 g33 g34 g35 g36 g37 g38 g39 g40 g41 g42 g43 g44 g45 g46 g47 g48 g49 g50 g51 g52 g53 g54 g55 g56 g57 g58 g59 g60 g61 g62 g63 g64 g65 g66 g67 g68 g69 g70 g71 g72 g73 g74 g75 g76 g77 g78 g79 g80 g81 g82 g83 g84 h
    simp only [L0] at h
    refine hr_inLoop ?_
    refine q_block rfl ?_
    refine q_seq rfl ?_
    refine q_region rfl rfl ?_
    refine qS 6 rfl (ok_assign · (.int _ _)) ?_
    refine hr_region_end ?_
    try dsimp only [w0, w1, w2, w3]
    refine q_seq rfl ?_
    refine q_seq rfl ?_
    refine q_region rfl rfl ?_
    refine qS 7 rfl (ok_assign · (.int _ _)) ?_
    refine hr_region_end ?_
    try dsimp only [w0, w1, w2, w3]
    refine q_block rfl ?_
    refine q_loop rfl ?_
    try dsimp only [w0, w1, w2, w3]
    exact L1_snd ih h
def f (k : Nat) (x0 : (Option HA)) (x1 : Int) (S : HS) : Option ((Sl) × HS) :=
  L0 k k x0 x1 Sl.nil S
theorem snd {k : Nat} {x0 : (Option HA)} {x1 : Int} {S : HS}  {p : (Sl) × HS} (h : f k x0 x1 S = some p) : HCall Try.prog base W0 β0 20 [(.ptr x0), (.int .i64 x1)] S (fun v S1 => v = (Sl.hv p.1) ∧ S1 = p.2) := by
  unfold f at h
  refine HCall.of_run at_.at_ body ?_
  show HRun Try.prog base W0 β0 20 none [.code c0] ⟨[(.ptr x0), (.int .i64 x1), τ, τ, τ, τ, τ, τ, τ, τ, τ, τ, τ, τ, τ, τ, τ, τ, τ, τ, τ, τ, τ, τ, τ, τ, τ, τ, τ, τ, τ, τ, τ, τ, τ, τ, τ, τ, τ, τ, τ, τ, τ, τ, τ, τ, τ, τ, τ, τ, τ, τ, τ, τ, τ, τ, τ, τ, τ, τ, τ, τ, τ, τ, τ, τ, τ, τ, τ, τ, τ, τ, τ, τ, τ, τ, τ, τ, τ, τ, τ, τ, τ, τ, τ], []⟩ S _
  refine q_seq rfl ?_
  refine q_region rfl rfl ?_
  refine qS 4 rfl (ok_assign · (.const fun _ => .slNil none)) ?_
  refine hr_region_end ?_
  try dsimp only [w0, w1, w2, w3]
  refine q_seq rfl ?_
  refine q_region rfl rfl ?_
  refine qS 5 rfl (ok_assign · (.const fun _ => .slNil none)) ?_
  refine hr_region_end ?_
  try dsimp only [w0, w1, w2, w3]
  refine q_block rfl ?_
  refine q_loop rfl ?_
  try dsimp only [w0, w1, w2, w3]
  exact L0_snd  h
end
end rollcallref11_Rel_Of
namespace rollcallref11_Rel_Add
theorem at_ : FnAt Try.prog 13 Try.f13 := ⟨Try.func13, by kernel_rfl⟩
noncomputable def d0 := (Try.f13.body).getD .skip
noncomputable def r1 := kR (kA d0)
noncomputable def r4 := kR (kA (kA (kB d0)))
noncomputable def r7 := kR (kA (kA (kB (kA (kB d0)))))
noncomputable def r12 := kR (kA (kA (kB (kB d0))))
noncomputable def r15 := kR (kA (kA (kB (kA (kB (kB d0))))))
noncomputable def r19 := kR (kA (kB (kB (kB d0))))
noncomputable def r21 := kR (kA (kB (kB (kB (kB d0)))))
noncomputable def c0 : Code := .seq (.region 0 r1 false) (.seq (.seq (.region 1 r4 false) (.cond (.tmp 10) (.seq (.region 2 r7 false) .ret) .skip)) (.seq (.seq (.region 3 r12 true) (.cond (.tmp 19) (.seq (.region 4 r15 false) .ret) .skip)) (.seq (.region 5 r19 false) (.seq (.region 6 r21 false) .ret))))
theorem body : Try.f13.body = some c0 := by kernel_rfl
section
variable {base : Nat} {W0 : World} {β0 : Bt}
def f (k : Nat) (x0 : (Option HA)) (x1 : Int) (x2 : (List UInt8)) (S : HS) : Option ((Int) × HS) :=
  (Option.bind (rollcallref11_Rel_Has.f k x0 x1 x2 S) fun p1 =>
  (if p1.1 = true then
  some (6, p1.2) else
  (Option.bind (rollcallref11_Rel_Of.f k x0 x1 p1.2) fun p3 =>
  (Option.bind (x0) fun p4 =>
  (Option.bind (HS.ldI p3.2 .i64 (HA.fld p4 0)) fun p5 =>
  (Option.bind (HS.ldI p1.2 .i64 (HA.fld p4 0)) fun p6 =>
  (if p6 = p5 then
  (if (Sl.len p3.1 : Int) ≥ p5 then
  some (7, p3.2) else
  (letv (HS.lit p3.2 [] 2) fun p9 =>
  (Option.bind (x0) fun p10 =>
  (Option.bind (HS.ldSl (p9.2) (HA.fld p10 1)) fun p11 =>
  (Option.bind (HS.rows (p9.2) p11 2) fun p12 =>
  (Option.bind (HS.app (p9.2) (p9.1) p12 2) fun p13 =>
  (letv (HS.lit (p13.2) [[(.int .i64 x1), (.str x2)]] 2) fun p14 =>
  (Option.bind (HS.rows (p14.2) (p14.1) 2) fun p15 =>
  (Option.bind (HS.app (p14.2) (p13.1) p15 2) fun p16 =>
  (Option.bind (x0) fun p17 =>
  (Option.bind (HS.sets (p16.2) (HA.fld p17 1) [(Sl.hv (p16.1))]) fun p18 =>
  some (0, p18)))))))))))) else none)))))))
theorem snd {k : Nat} {x0 : (Option HA)} {x1 : Int} {x2 : (List UInt8)} {S : HS}  {p : (Int) × HS} (h : f k x0 x1 x2 S = some p) : HCall Try.prog base W0 β0 13 [(.ptr x0), (.int .i64 x1), (.str x2)] S (fun v S1 => v = (.int .i64 p.1) ∧ S1 = p.2) := by
  unfold f at h
  refine HCall.of_run at_.at_ body ?_
  show HRun Try.prog base W0 β0 13 none [.code c0] ⟨[(.ptr x0), (.int .i64 x1), (.str x2), τ, τ, τ, τ, τ, τ, τ, τ, τ, τ, τ, τ, τ, τ, τ, τ, τ, τ, τ, τ, τ, τ, τ, τ, τ, τ, τ, τ, τ, τ, τ], []⟩ S _
  refine q_seq rfl ?_
  refine q_region rfl rfl ?_
  refine qS 6 rfl (ok_assign · (.int _ _)) ?_
  refine hr_region_end ?_
  try dsimp only [w0, w1, w2, w3]
  refine q_seq rfl ?_
  refine q_seq rfl ?_
  refine q_region rfl rfl ?_
  refine qS 7 rfl (ok_move · (.tmp rfl)) ?_
  refine qS 8 rfl (ok_move · (.tmp rfl)) ?_
  refine qS 9 rfl (ok_move · (.tmp rfl)) ?_
  obtain ⟨p1, hp1, h⟩ := bindo h
  refine q_call (dst := some 10) rfl (.func _) (.cons (.tmp rfl) (.cons (.tmp rfl) (.cons (.tmp rfl) Evs.nil))) (HInv.static rollcallref11_Rel_Has.at_ rollcallref11_Rel_Has.body (rollcallref11_Rel_Has.snd  hp1)) ?_
  rintro _ _ ⟨rfl, rfl⟩
  refine hr_region_end ?_
  try dsimp only [w0, w1, w2, w3]
  rcases ifc h with ⟨hc2, h⟩ | ⟨hc2, h⟩
  · refine q_cond_t rfl (.tmp rfl) hc2 ?_
    refine q_seq rfl ?_
    refine q_region rfl rfl ?_
    refine qS 6 rfl (ok_assign · (.int _ _)) ?_
    refine hr_region_end ?_
    try dsimp only [w0, w1, w2, w3]
    cases h
    exact q_ret rfl at_.at_ rfl (res1 rfl rfl) ⟨rfl, rfl⟩
  · refine q_cond_f rfl (.tmp rfl) (bfalse hc2) ?_
    refine q_skipc rfl ?_
    refine q_seq rfl ?_
    refine q_seq rfl ?_
    refine x_start (cls := [0, 0, 2, 0, 0, 0, 0, 3, 0]) (rk := [0, 1, 2, 3, 4, 5, 6, 7, 8]) rfl (by kernel_rfl) ?_
    refine xf 11 [0] rfl (ok_move · (.tmp rfl)) ?_
    refine xf 12 [1] rfl (ok_move · (.tmp rfl)) ?_
    obtain ⟨p3, hp3, h⟩ := bindo h
    refine x_goE (e_call (dst := some 13) (ts := [11, 12]) rfl (by kernel_rfl) (.func _) (.cons (.tmp rfl) (.cons (.tmp rfl) Evs.nil)) (HInv.static rollcallref11_Rel_Of.at_ rollcallref11_Rel_Of.body (rollcallref11_Rel_Of.snd  hp3))) rfl trivial ?_
    refine xf 14 [13] rfl (ok_len_sl (q := Sl.a p3.1) (n := Sl.len p3.1) (z := Sl.cap p3.1) · rfl tu40 (.tmp rfl)) ?_
    try dsimp only [w0, w1, w2, w3]
    refine xf 15 [0] rfl (ok_move · (.tmp rfl)) ?_
    obtain ⟨p4, hp4, h⟩ := bindo h
    refine xf 16 [15] rfl (ok_nilCheck_p · (.tmp rfl) hp4) ?_
    refine xf 17 [16] rfl (ok_fieldAddr_s · fi32_0 (by decide) (.tmp rfl) rfl) ?_
    obtain ⟨p5, hp5, h⟩ := bindo h
    obtain ⟨p6, hp6, h⟩ := bindo h
    obtain ⟨hg7, h⟩ := gd h
    refine x_late (r_op (dst := some 18) (ts := [17]) rfl (by intro _ _ h; cases h) (by kernel_rfl) (fun _ ho => ok_load_s ho sc3 (.tmp rfl) rfl (ldI_out hp5))) rfl ⟨.inr (l_op (dst := some 18) (ts := [17]) rfl (by intro _ _ h; cases h) (by kernel_rfl) (fun _ ho => ok_load_s ho sc3 (.tmp rfl) rfl (ldI_out (hp6.trans (congrArg some hg7))))), trivial⟩ ?_
    try dsimp only [w0, w1, w2, w3]
    refine xf 19 [14, 18] rfl (ok_ibin · (.tmp rfl) (.tmp rfl) rfl) ?_
    refine x_rest rfl ?_
    refine hr_region_end ?_
    try dsimp only [w0, w1, w2, w3]
    rcases ifc h with ⟨hc8, h⟩ | ⟨hc8, h⟩
    · refine q_cond_t rfl (.tmp rfl) (decide_eq_true hc8) ?_
      refine q_seq rfl ?_
      refine q_region rfl rfl ?_
      refine qS 6 rfl (ok_assign · (.int _ _)) ?_
      refine hr_region_end ?_
      try dsimp only [w0, w1, w2, w3]
      cases h
      exact q_ret rfl at_.at_ rfl (res1 rfl rfl) ⟨rfl, rfl⟩
    · refine q_cond_f rfl (.tmp rfl) (decide_eq_false hc8) ?_
      refine q_skipc rfl ?_
      refine q_seq rfl ?_
      refine q_region rfl rfl ?_
      refine qS 20 rfl (ok_move · (.tmp rfl)) ?_
      obtain ⟨p9, hp9, h⟩ := leto h
      refine qS 21 rfl (ok_buildSlice_s (xs := []) el30 · rfl rfl (by decide) Evs.nil rfl rfl hp9) ?_
      refine qS 22 rfl (ok_move · (.tmp rfl)) ?_
      obtain ⟨p10, hp10, h⟩ := bindo h
      refine qS 23 rfl (ok_nilCheck_p · (.tmp rfl) hp10) ?_
      try dsimp only [w0, w1, w2, w3]
      refine qS 24 rfl (ok_fieldAddr_s · fi32_1 (by decide) (.tmp rfl) rfl) ?_
      obtain ⟨p11, hp11, h⟩ := bindo h
      refine qS 25 rfl (ok_load_s · sc30 (.tmp rfl) rfl (ldSl_out hp11)) ?_
      obtain ⟨p12, hp12, h⟩ := bindo h
      obtain ⟨p13, hp13, h⟩ := bindo h
      refine qS 26 rfl (ok_append (s := (p9.1)) (s1 := p11) el30 · rfl rfl ⟨_, tu30⟩ (.tmp rfl) (.tmp rfl) hp12 hp13) ?_
      refine qS 27 rfl (ok_move · (.tmp rfl)) ?_
      try dsimp only [w0, w1, w2, w3]
      refine qS 28 rfl (ok_move · (.tmp rfl)) ?_
      refine qS 29 rfl (ok_build (is := [0, 1]) (xs := [(.tmp 27), (.tmp 28)]) (r := [(.int .i64 x1), (.str x2)]) st70 · rfl rfl (.cons (.tmp rfl) (.cons (.tmp rfl) Evs.nil)) rfl) ?_
      obtain ⟨p14, hp14, h⟩ := leto h
      refine qS 30 rfl (ok_buildSlice_s (xs := [(.tmp 29)]) el30 · rfl rfl (by decide) (.cons (.tmp rfl) Evs.nil) rfl rfl hp14) ?_
      obtain ⟨p15, hp15, h⟩ := bindo h
      obtain ⟨p16, hp16, h⟩ := bindo h
      refine qS 31 rfl (ok_append (s := (p13.1)) (s1 := (p14.1)) el30 · rfl rfl ⟨_, tu30⟩ (.tmp rfl) (.tmp rfl) hp15 hp16) ?_
      try dsimp only [w0, w1, w2, w3]
      obtain ⟨p17, hp17, h⟩ := bindo h
      refine qS 32 rfl (ok_nilCheck_p · (.tmp rfl) hp17) ?_
      refine qS 33 rfl (ok_fieldAddr_s · fi32_1 (by decide) (.tmp rfl) rfl) ?_
      obtain ⟨p18, hp18, h⟩ := bindo h
      refine qN rfl (ok_store_s (v := (Sl.hv (p16.1))) · sz30 (.tmp rfl) rfl (.tmp rfl) rfl hp18) ?_
      refine hr_region_end ?_
      try dsimp only [w0, w1, w2, w3]
      refine q_seq rfl ?_
      refine q_region rfl rfl ?_
      refine qS 6 rfl (ok_assign · (.int _ _)) ?_
      refine hr_region_end ?_
      try dsimp only [w0, w1, w2, w3]
      cases h
      exact q_ret rfl at_.at_ rfl (res1 rfl rfl) ⟨rfl, rfl⟩
end
end rollcallref11_Rel_Add
namespace rollcalllaw11_rights
theorem at_ : FnAt Try.prog 14 Try.f14 := ⟨Try.func14, by kernel_rfl⟩
noncomputable def d0 := (Try.f14.body).getD .skip
noncomputable def r1 := kR (kA d0)
noncomputable def r3 := kR (kA (kB d0))
noncomputable def r5 := kR (kA (kB (kB d0)))
noncomputable def d6 := kB (kB (kB d0))
noncomputable def r8 := kR (kA (kA d6))
noncomputable def r11 := kR (kA (kA (kB (kA d6))))
noncomputable def r16 := kR (kA (kA (kB d6)))
noncomputable def d17 := kB (kA (kB d6))
noncomputable def r19 := kR (kA (kA d17))
noncomputable def r23 := kR (kA (kA (kA (kB (kA d17)))))
noncomputable def r26 := kR (kA (kA (kB (kA (kA (kB (kA d17)))))))
noncomputable def r29 := kR (kB (kA (kB (kA d17))))
noncomputable def r31 := kR (kA (kB (kB d6)))
noncomputable def c20 : Code := .block 1 (.seq (.seq (.region 7 r23 false) (.cond (.tmp 21) (.seq (.region 8 r26 false) .ret) .skip)) (.region 9 r29 false))
noncomputable def c19 : Code := .region 6 r19 false
noncomputable def c0 : Code := .seq (.region 0 r1 false) (.seq (.region 1 r3 false) (.seq (.region 2 r5 false) (.seq (.seq (.region 3 r8 false) (.cond (.tmp 15) (.seq (.region 4 r11 false) .ret) .skip)) (.seq (.seq (.region 5 r16 false) (.block 0 (.rangeFunc (.tmp 16) #[17] c19 c20))) (.seq (.region 10 r31 false) .ret)))))
theorem body : Try.f14.body = some c0 := by kernel_rfl
section
variable {base : Nat} {W0 : World} {β0 : Bt}
def J0 (D : Dp) (H : Hd) (l : Nat) (y5 : (Option HA)) (y6 : (Option HA)) (y7 : (Option HA)) (y8 : (Option HA)) (y17 : (List UInt8)) (S : HS) : Option (HV × HS) :=
  (Option.bind (HS.begin_ S l) fun p13 =>
  (Option.bind (y8) fun p14 =>
  (Option.bind (HS.ldSl p13 p14) fun p15 =>
  (Option.bind (y5) fun p16 =>
  (Option.bind (HS.ldI p13 .i64 p16) fun p17 =>
  (if (Sl.len p15 : Int) ≥ p17 then
  (Option.bind (y6) fun p19 =>
  (Option.bind (HS.sets p13 p19 [(Sl.hv Sl.nil)]) fun p20 =>
  (Option.bind (y7) fun p21 =>
  (Option.bind (HS.sets p20 p21 [(.bool false)]) fun p22 =>
  (HS.endr p22 l (some .ret)))))) else
  (Option.bind (y8) fun p23 =>
  (Option.bind (HS.ldSl p13 p23) fun p24 =>
  (letv (HS.lit p13 [[(.str y17)]] 1) fun p25 =>
  (Option.bind (HS.rows (p25.2) (p25.1) 1) fun p26 =>
  (Option.bind (HS.app (p25.2) p24 p26 1) fun p27 =>
  (Option.bind (y8) fun p28 =>
  (Option.bind (HS.sets (p27.2) p28 [(Sl.hv (p27.1))]) fun p29 =>
  (HS.endr p29 l none))))))))))))))
theorem J0_snd {D : Dp} {H : Hd} {l : Nat} (hD : DSound Try.prog base W0 D) (hH : HSound Try.prog base W0 β0 H)  {y5 : (Option HA)} {y6 : (Option HA)} {y7 : (Option HA)} {y8 : (Option HA)} {y17 : (List UInt8)} {S : HS} {p : HV × HS} {g0 g1 g2 g3 g4 g9 g10 g11 g12 g13 g14 g15 g16 g18 g19 g20 g21 g22 g23 g24 g25 g26 : HV} (h : J0 D H l y5 y6 y7 y8 y17 S = some p) : HRun Try.prog base W0 β0 14 (some l) [.code c19, .beginRound, .code c20] ⟨[g0, g1, g2, g3, g4, (.ptr y5), (.ptr y6), (.ptr y7), (.ptr y8), g9, g10, g11, g12, g13, g14, g15, g16, (.str y17), g18, g19, g20, g21, g22, g23, g24, g25, g26], []⟩ S (fun v S1 => v = p.1 ∧ S1 = p.2) := by
  unfold J0 at h
  refine q_region rfl rfl ?_
  refine qS 10 rfl (ok_assign · (.tmp rfl)) ?_
  refine hr_region_end ?_
  try dsimp only [w0, w1, w2, w3]
  obtain ⟨p13, hp13, h⟩ := bindo h
  refine q_begin hp13 ?_
  refine q_block rfl ?_
  refine q_seq rfl ?_
  refine q_seq rfl ?_
  refine q_region rfl rfl ?_
  obtain ⟨p14, hp14, h⟩ := bindo h
  obtain ⟨p15, hp15, h⟩ := bindo h
  refine qS 18 rfl (ok_load_s · sc40 (.tmp rfl) hp14 (ldSl_out hp15)) ?_
  refine qS 19 rfl (ok_len_sl (q := Sl.a p15) (n := Sl.len p15) (z := Sl.cap p15) · rfl tu40 (.tmp rfl)) ?_
  obtain ⟨p16, hp16, h⟩ := bindo h
  obtain ⟨p17, hp17, h⟩ := bindo h
  refine qS 20 rfl (ok_load_s · sc3 (.tmp rfl) hp16 (ldI_out hp17)) ?_
  refine qS 21 rfl (ok_ibin · (.tmp rfl) (.tmp rfl) rfl) ?_
  refine hr_region_end ?_
  try dsimp only [w0, w1, w2, w3]
  rcases ifc h with ⟨hc18, h⟩ | ⟨hc18, h⟩
  · refine q_cond_t rfl (.tmp rfl) (decide_eq_true hc18) ?_
    refine q_seq rfl ?_
    refine q_region rfl rfl ?_
    obtain ⟨p19, hp19, h⟩ := bindo h
    obtain ⟨p20, hp20, h⟩ := bindo h
    refine qN rfl (ok_store_s (v := (Sl.hv Sl.nil)) · sz40 (.tmp rfl) hp19 (.const fun _ => .slNil none) rfl hp20) ?_
    obtain ⟨p21, hp21, h⟩ := bindo h
    obtain ⟨p22, hp22, h⟩ := bindo h
    refine qN rfl (ok_store_s (v := (.bool false)) · sz4 (.tmp rfl) hp21 (.bool _) rfl hp22) ?_
    refine hr_region_end ?_
    try dsimp only [w0, w1, w2, w3]
    exact q_round_ret rfl h ⟨rfl, rfl⟩
  · refine q_cond_f rfl (.tmp rfl) (decide_eq_false hc18) ?_
    refine q_skipc rfl ?_
    refine q_region rfl rfl ?_
    obtain ⟨p23, hp23, h⟩ := bindo h
    obtain ⟨p24, hp24, h⟩ := bindo h
    refine qS 22 rfl (ok_load_s · sc40 (.tmp rfl) hp23 (ldSl_out hp24)) ?_
    refine qS 23 rfl (ok_move · (.tmp rfl)) ?_
    obtain ⟨p25, hp25, h⟩ := leto h
    refine qS 24 rfl (ok_buildSlice_s (xs := [(.tmp 23)]) el40 · rfl rfl (by decide) (.cons (.tmp rfl) Evs.nil) rfl rfl hp25) ?_
    obtain ⟨p26, hp26, h⟩ := bindo h
    obtain ⟨p27, hp27, h⟩ := bindo h
    refine qS 25 rfl (ok_append (s := p24) (s1 := (p25.1)) el40 · rfl rfl ⟨_, tu40⟩ (.tmp rfl) (.tmp rfl) hp26 hp27) ?_
    try dsimp only [w0, w1, w2, w3]
    obtain ⟨p28, hp28, h⟩ := bindo h
    obtain ⟨p29, hp29, h⟩ := bindo h
    refine qN rfl (ok_store_s (v := (Sl.hv (p27.1))) · sz40 (.tmp rfl) hp28 (.tmp rfl) rfl hp29) ?_
    refine hr_region_end ?_
    try dsimp only [w0, w1, w2, w3]
    refine hr_inBlock ?_
    exact q_round_end h ⟨rfl, rfl⟩
def f (D : Dp) (H : Hd) (x0 : (Option HA)) (x1 : Int) (x2 : Int) (S : HS) : Option ((Sl × Bool) × HS) :=
  (letv (HS.new S (.cells 1 [[(.int .i64 x2)]] true)) fun p1 =>
  (letv (HS.new p1 (.cells 1 [[(Sl.hv Sl.nil)]] true)) fun p2 =>
  (letv (HS.new p2 (.cells 1 [[(.bool false)]] true)) fun p3 =>
  (letv (HS.new p3 (.cells 1 [[(Sl.hv Sl.nil)]] true)) fun p4 =>
  (Option.bind (pair_Rel_int_string_Of.f x0 x1 p4) fun p5 =>
  (Option.bind (HV.isNilFn p5.1) fun p6 =>
  (if (p6) = true then
  (Option.bind (HS.sets p5.2 (HA.cell0 p1.next) [(Sl.hv Sl.nil)]) fun p8 =>
  (Option.bind (HS.sets p8 (HA.cell0 p2.next) [(.bool false)]) fun p9 =>
  (Option.bind (HS.leave p9 []) fun p10 =>
  (Option.bind (HS.ldSl p10 (HA.cell0 p1.next)) fun p11 =>
  (Option.bind (HS.ldB p10 (HA.cell0 p2.next)) fun p12 =>
  some ((p11, p12), p10)))))) else
  (Option.bind (D (Hd.set H (HS.next p5.2 + 1) fun vs T =>
  (Option.bind (HS.lp T (HS.next p5.2 + 1)) fun u32 =>
  (Option.bind (args1 vs) fun ar30 =>
  (Option.bind (dS ar30) fun p31 =>
  (J0 D H (HS.next p5.2 + 1) (some (HA.cell0 S.next)) (some (HA.cell0 p1.next)) (some (HA.cell0 p2.next)) (some (HA.cell0 p3.next)) p31 T))))) p5.1 [.fn (.yield (HS.next p5.2 + 1)) [] []] (HS.new (HS.new p5.2 .defer) (.loop .ready none))) fun p33 =>
  (Option.bind (HS.finish p33.2 (HS.next p5.2 + 1)) fun p34 =>
  (Option.bind (pcode p34.1) fun n35 =>
  (if n35 = 0 then
  (Option.bind (HS.ldSl p34.2 (HA.cell0 p3.next)) fun p37 =>
  (Option.bind (HS.sets p34.2 (HA.cell0 p1.next) [(Sl.hv p37)]) fun p38 =>
  (Option.bind (HS.sets p38 (HA.cell0 p2.next) [(.bool true)]) fun p39 =>
  (Option.bind (HS.leave p39 (HS.next p5.2 :: [])) fun p40 =>
  (Option.bind (HS.ldSl p40 (HA.cell0 p1.next)) fun p41 =>
  (Option.bind (HS.ldB p40 (HA.cell0 p2.next)) fun p42 =>
  some ((p41, p42), p40))))))) else
  (if n35 = 1 then
  (Option.bind (HS.leave p34.2 (HS.next p5.2 :: [])) fun p44 =>
  (Option.bind (HS.ldSl p44 (HA.cell0 p1.next)) fun p45 =>
  (Option.bind (HS.ldB p44 (HA.cell0 p2.next)) fun p46 =>
  some ((p45, p46), p44)))) else
  none))))))))))))
theorem snd {D : Dp} {H : Hd} {x0 : (Option HA)} {x1 : Int} {x2 : Int} {S : HS} (hD : DSound Try.prog base W0 D) (hH : HSound Try.prog base W0 β0 H)  {p : (Sl × Bool) × HS} (h : f D H x0 x1 x2 S = some p) : HCall Try.prog base W0 β0 14 [(.ptr x0), (.int .i64 x1), (.int .i64 x2)] S (fun v S1 => v = (.tup [(Sl.hv p.1.1), (.bool p.1.2)]) ∧ S1 = p.2) := by
  unfold f at h
  refine HCall.of_run at_.at_ body ?_
  show HRun Try.prog base W0 β0 14 none [.code c0] ⟨[(.ptr x0), (.int .i64 x1), (.int .i64 x2), τ, τ, τ, τ, τ, τ, τ, τ, τ, τ, τ, τ, τ, τ, τ, τ, τ, τ, τ, τ, τ, τ, τ, τ], []⟩ S _
  refine q_seq rfl ?_
  refine q_region rfl rfl ?_
  obtain ⟨p1, hp1, h⟩ := leto h
  refine qS 5 rfl (ok_box_e · (.tmp rfl) (Nat.zero_lt_succ _) rfl hp1) ?_
  obtain ⟨p2, hp2, h⟩ := leto h
  refine qS 6 rfl (ok_alloc_e · zi40 zr40 (by decide) rfl hp2) ?_
  obtain ⟨p3, hp3, h⟩ := leto h
  refine qS 7 rfl (ok_alloc_e · zi4 zr4 (by decide) rfl hp3) ?_
  refine hr_region_end ?_
  try dsimp only [w0, w1, w2, w3]
  refine q_seq rfl ?_
  refine q_region rfl rfl ?_
  obtain ⟨p4, hp4, h⟩ := leto h
  refine qS 8 rfl (ok_alloc_e · zi40 zr40 (by decide) rfl hp4) ?_
  refine hr_region_end ?_
  try dsimp only [w0, w1, w2, w3]
  refine q_seq rfl ?_
  refine q_region rfl rfl ?_
  refine qS 11 rfl (ok_move · (.tmp rfl)) ?_
  refine qS 12 rfl (ok_move · (.tmp rfl)) ?_
  obtain ⟨p5, hp5, h⟩ := bindo h
  refine q_call (dst := some 13) rfl (.func _) (.cons (.tmp rfl) (.cons (.tmp rfl) Evs.nil)) (HInv.static pair_Rel_int_string_Of.at_ pair_Rel_int_string_Of.body (pair_Rel_int_string_Of.snd  hp5)) ?_
  rintro _ _ ⟨rfl, rfl⟩
  refine qS 9 rfl (ok_assign · (.tmp rfl)) ?_
  refine hr_region_end ?_
  try dsimp only [w0, w1, w2, w3]
  refine q_seq rfl ?_
  refine q_seq rfl ?_
  refine q_region rfl rfl ?_
  refine qS 14 rfl (ok_move · (.tmp rfl)) ?_
  obtain ⟨p6, hp6, h⟩ := bindo h
  refine qS 15 rfl (ok_nil_fn · tu72 (.tmp rfl) hp6 (.inl ⟨rfl, rfl⟩)) ?_
  refine hr_region_end ?_
  try dsimp only [w0, w1, w2, w3]
  rcases ifc h with ⟨hc7, h⟩ | ⟨hc7, h⟩
  · refine q_cond_t rfl (.tmp rfl) hc7 ?_
    refine q_seq rfl ?_
    refine q_region rfl rfl ?_
    obtain ⟨p8, hp8, h⟩ := bindo h
    refine qN rfl (ok_store_s (v := (Sl.hv Sl.nil)) · sz40 (.tmp rfl) rfl (.const fun _ => .slNil none) rfl hp8) ?_
    obtain ⟨p9, hp9, h⟩ := bindo h
    refine qN rfl (ok_store_s (v := (.bool false)) · sz4 (.tmp rfl) rfl (.bool _) rfl hp9) ?_
    refine hr_region_end ?_
    try dsimp only [w0, w1, w2, w3]
    obtain ⟨p10, hp10, h⟩ := bindo h
    obtain ⟨p11, hp11, h⟩ := bindo h
    obtain ⟨p12, hp12, h⟩ := bindo h
    cases h
    exact q_ret rfl at_.at_ hp10 (resL (rs := [.cell 6 40, .cell 7 4]) rfl (.cons (.cell rfl rfl sc40 (ldSl_out hp11)) (.cons (.cell rfl rfl sc4 (ldB_out hp12)) .nil)) (by simp)) ⟨rfl, rfl⟩
  · refine q_cond_f rfl (.tmp rfl) (bfalse hc7) ?_
    refine q_skipc rfl ?_
    refine q_seq rfl ?_
    refine q_seq rfl ?_
    refine q_region rfl rfl ?_
    refine qS 16 rfl (ok_move · (.tmp rfl)) ?_
    refine hr_region_end ?_
    try dsimp only [w0, w1, w2, w3]
    refine q_block rfl ?_
    obtain ⟨p33, hp33, h⟩ := bindo h
    obtain ⟨p34, hp34, h⟩ := bindo h
    obtain ⟨n35, hn35, h⟩ := bindo h
    refine q_range (D := D) (H := H) rfl (.tmp rfl) hD hH hp33 hp34 ?_ ?_
    · intro β1 hle hLA vs T u T' hr
      obtain ⟨u32, hu32, hr⟩ := bindo hr
      obtain ⟨ar30, har30, hr⟩ := bindo hr
      obtain ⟨p31, hp31, hr⟩ := bindo hr
      rw [args1_out har30]
      refine q_yield2 hLA hu32 rfl rfl ?_
      rw [dS_out hp31]
      simp only [HAct.params, List.set_cons_zero, List.set_cons_succ]
      exact J0_snd hD (hH.up hle) hr
    · rcases ifc h with ⟨hc36, h⟩ | ⟨hc36, h⟩
      · rw [pcode0 hn35 hc36]
        simp only [jumped_none, jumped_some]
        refine hr_inBlock ?_
        refine q_seq rfl ?_
        refine q_region rfl rfl ?_
        obtain ⟨p37, hp37, h⟩ := bindo h
        refine qS 26 rfl (ok_load_s · sc40 (.tmp rfl) rfl (ldSl_out hp37)) ?_
        obtain ⟨p38, hp38, h⟩ := bindo h
        refine qN rfl (ok_store_s (v := (Sl.hv p37)) · sz40 (.tmp rfl) rfl (.tmp rfl) rfl hp38) ?_
        obtain ⟨p39, hp39, h⟩ := bindo h
        refine qN rfl (ok_store_s (v := (.bool true)) · sz4 (.tmp rfl) rfl (.bool _) rfl hp39) ?_
        refine hr_region_end ?_
        try dsimp only [w0, w1, w2, w3]
        obtain ⟨p40, hp40, h⟩ := bindo h
        obtain ⟨p41, hp41, h⟩ := bindo h
        obtain ⟨p42, hp42, h⟩ := bindo h
        cases h
        exact q_ret rfl at_.at_ hp40 (resL (rs := [.cell 6 40, .cell 7 4]) rfl (.cons (.cell rfl rfl sc40 (ldSl_out hp41)) (.cons (.cell rfl rfl sc4 (ldB_out hp42)) .nil)) (by simp)) ⟨rfl, rfl⟩
      · rcases ifc h with ⟨hc43, h⟩ | ⟨hc43, h⟩
        · rw [pcode1 hn35 hc43]
          simp only [jumped_none, jumped_some]
          obtain ⟨p44, hp44, h⟩ := bindo h
          obtain ⟨p45, hp45, h⟩ := bindo h
          obtain ⟨p46, hp46, h⟩ := bindo h
          cases h
          exact q_ret rfl at_.at_ hp44 (resL (rs := [.cell 6 40, .cell 7 4]) rfl (.cons (.cell rfl rfl sc40 (ldSl_out hp45)) (.cons (.cell rfl rfl sc4 (ldB_out hp46)) .nil)) (by simp)) ⟨rfl, rfl⟩
        · cases h
end
end rollcalllaw11_rights
namespace pair_Rel_int_string_Len
theorem at_ : FnAt Try.prog 16 Try.f16 := ⟨Try.func16, by kernel_rfl⟩
noncomputable def d0 := (Try.f16.body).getD .skip
noncomputable def r1 := kR (kA d0)
noncomputable def r4 := kR (kA (kA (kB d0)))
noncomputable def r7 := kR (kA (kA (kB (kA (kB d0)))))
noncomputable def r11 := kR (kA (kB (kB d0)))
noncomputable def c0 : Code := .seq (.region 0 r1 false) (.seq (.seq (.region 1 r4 false) (.cond (.tmp 4) (.seq (.region 2 r7 false) .ret) .skip)) (.seq (.region 3 r11 false) .ret))
theorem body : Try.f16.body = some c0 := by kernel_rfl
section
variable {base : Nat} {W0 : World} {β0 : Bt}
def f (x0 : (Option HA)) (S : HS) : Option ((Int) × HS) :=
  (if (Option.isNone x0) = true then
  some (0, S) else
  (Option.bind (x0) fun p2 =>
  (Option.bind (HS.ldI S .i64 (HA.fld p2 1)) fun p3 =>
  some (p3, S))))
theorem snd {x0 : (Option HA)} {S : HS}  {p : (Int) × HS} (h : f x0 S = some p) : HCall Try.prog base W0 β0 16 [(.ptr x0)] S (fun v S1 => v = (.int .i64 p.1) ∧ S1 = p.2) := by
  unfold f at h
  refine HCall.of_run at_.at_ body ?_
  show HRun Try.prog base W0 β0 16 none [.code c0] ⟨[(.ptr x0), τ, τ, τ, τ, τ, τ, τ, τ], []⟩ S _
  refine q_seq rfl ?_
  refine q_region rfl rfl ?_
  refine qS 2 rfl (ok_assign · (.int _ _)) ?_
  refine hr_region_end ?_
  try dsimp only [w0, w1, w2, w3]
  refine q_seq rfl ?_
  refine q_seq rfl ?_
  refine q_region rfl rfl ?_
  refine qS 3 rfl (ok_move · (.tmp rfl)) ?_
  refine qS 4 rfl (ok_nil_ptr · tu25 (.tmp rfl) (.inl ⟨rfl, rfl⟩)) ?_
  refine hr_region_end ?_
  try dsimp only [w0, w1, w2, w3]
  rcases ifc h with ⟨hc1, h⟩ | ⟨hc1, h⟩
  · refine q_cond_t rfl (.tmp rfl) hc1 ?_
    refine q_seq rfl ?_
    refine q_region rfl rfl ?_
    refine qS 2 rfl (ok_assign · (.int _ _)) ?_
    refine hr_region_end ?_
    try dsimp only [w0, w1, w2, w3]
    cases h
    exact q_ret rfl at_.at_ rfl (res1 rfl rfl) ⟨rfl, rfl⟩
  · refine q_cond_f rfl (.tmp rfl) (bfalse hc1) ?_
    refine q_skipc rfl ?_
    refine q_seq rfl ?_
    refine q_region rfl rfl ?_
    refine qS 5 rfl (ok_move · (.tmp rfl)) ?_
    obtain ⟨p2, hp2, h⟩ := bindo h
    refine qS 6 rfl (ok_nilCheck_p · (.tmp rfl) hp2) ?_
    refine qS 7 rfl (ok_fieldAddr_s · fi66_1 (by decide) (.tmp rfl) rfl) ?_
    obtain ⟨p3, hp3, h⟩ := bindo h
    refine qS 8 rfl (ok_load_s · sc3 (.tmp rfl) rfl (ldI_out hp3)) ?_
    try dsimp only [w0, w1, w2, w3]
    refine qS 2 rfl (ok_assign · (.tmp rfl)) ?_
    refine hr_region_end ?_
    try dsimp only [w0, w1, w2, w3]
    cases h
    exact q_ret rfl at_.at_ rfl (res1 rfl rfl) ⟨rfl, rfl⟩
end
end pair_Rel_int_string_Len
namespace rollcallref01_Texts
theorem at_ : FnAt Try.prog 21 Try.f21 := ⟨Try.func21, by kernel_rfl⟩
noncomputable def d0 := (Try.f21.body).getD .skip
noncomputable def r1 := kR (kA d0)
noncomputable def r4 := kR (kA (kA (kB d0)))
noncomputable def r7 := kR (kA (kA (kB (kA (kB d0)))))
noncomputable def d11 := kA (kB (kB d0))
noncomputable def r12 := kR (kA d11)
noncomputable def d15 := kA (kA (kB d11))
noncomputable def r17 := kR (kA (kA d15))
noncomputable def r24 := kR (kA (kA (kA (kB d15))))
noncomputable def r27 := kR (kA (kA (kB (kA (kA (kB d15))))))
noncomputable def r30 := kR (kB (kB d15))
noncomputable def r32 := kR (kA (kB (kB (kB d0))))
noncomputable def c31 : Code := .seq (.region 8 r32 false) .ret
noncomputable def c15 : Code := .seq (.seq (.region 4 r17 false) (.cond (.tmp 14) .skip (.exit 0))) (.seq (.block 1 (.seq (.region 6 r24 true) (.cond (.tmp 25) (.seq (.region 7 r27 false) .ret) .skip))) (.region 5 r30 false))
noncomputable def c0 : Code := .seq (.region 0 r1 false) (.seq (.seq (.region 1 r4 false) (.cond (.tmp 10) (.seq (.region 2 r7 false) .ret) .skip)) (.seq (.seq (.region 3 r12 false) (.block 0 (.loop c15))) c31))
theorem body : Try.f21.body = some c0 := by kernel_rfl
section
variable {base : Nat} {W0 : World} {β0 : Bt}
def L0 (k : Nat) : Nat → Sl → Sl → Int → HS → Option ((Bool) × HS)
  | 0, _, _, _, _ => none
  | n + 1, y0, y1, y5, S =>
    (if y5 < (Sl.len y0 : Int) then
    (Option.bind (HS.idx S y0 y5 1) fun p3 =>
    (Option.bind (HS.ldS S p3) fun p4 =>
    (Option.bind (HS.idx S y1 y5 1) fun p5 =>
    (Option.bind (HS.ldS S p5) fun p6 =>
    (if (!decide (p4 = p6)) = true then
    some (false, S) else
    (L0 k n) y0 y1 (w64 (y5 + 1)) S))))) else
    some (true, S))
theorem L0_snd {k : Nat}  : ∀ {n : Nat} ⦃y0 : Sl⦄ ⦃y1 : Sl⦄ ⦃y5 : Int⦄ ⦃S : HS⦄ ⦃p : (Bool) × HS⦄ ⦃g2 g3 g4 g6 g7 g8 g9 g10 g11 g12 g13 g14 g15 g16 g17 g18 g19 g20 g21 g22 g23 g24 g25 : HV⦄, L0 k n y0 y1 y5 S = some p → HRun Try.prog base W0 β0 21 none [.inLoop c15, .inBlock 0, .code c31] ⟨[(Sl.hv y0), (Sl.hv y1), g2, g3, g4, (.int .i64 y5), g6, g7, g8, g9, g10, g11, g12, g13, g14, g15, g16, g17, g18, g19, g20, g21, g22, g23, g24, g25], []⟩ S (fun v S1 => v = (.bool p.1) ∧ S1 = p.2) := by
  intro n
  induction n with
  | zero => intro _ _ _ _ _ _ _ _ _ _ _ _ _ _ _ _ _ _ _ _ _ _ _ _ _ _ _ _ h; cases h
  | succ n ih =>
    intro y0 y1 y5 S p g2 g3 g4 g6 g7 g8 g9 g10 g11 g12 g13 g14 g15 g16 g17 g18 g19 g20 g21 g22 g23 g24 g25 h
    simp only [L0] at h
    refine hr_inLoop ?_
    refine q_seq rfl ?_
    refine q_seq rfl ?_
    refine q_region rfl rfl ?_
    refine qS 11 rfl (ok_move · (.tmp rfl)) ?_
    refine qS 12 rfl (ok_move · (.tmp rfl)) ?_
    refine qS 13 rfl (ok_len_sl (q := Sl.a y0) (n := Sl.len y0) (z := Sl.cap y0) · rfl tu40 (.tmp rfl)) ?_
    refine qS 14 rfl (ok_ibin · (.tmp rfl) (.tmp rfl) rfl) ?_
    refine hr_region_end ?_
    try dsimp only [w0, w1, w2, w3]
    rcases ifc h with ⟨hc2, h⟩ | ⟨hc2, h⟩
    · refine q_cond_t rfl (.tmp rfl) (decide_eq_true hc2) ?_
      refine q_skipc rfl ?_
      refine q_seq rfl ?_
      refine q_block rfl ?_
      refine q_seq rfl ?_
      refine x_start (cls := [0, 0, 1, 1, 0, 0, 1, 1, 0]) (rk := [0, 1, 2, 3, 4, 5, 6, 7, 8]) rfl (by kernel_rfl) ?_
      refine yf 17 [0] rfl (ok_move · (.tmp rfl)) ?_
      refine yf 18 [5] rfl (ok_move · (.tmp rfl)) ?_
      obtain ⟨p3, hp3, h⟩ := bindo h
      refine yr 19 [17, 18] rfl (ok_indexAddr (s := y0) · tu40 sz9 (.tmp rfl) (.tmp rfl) hp3) ?_
      obtain ⟨p4, hp4, h⟩ := bindo h
      refine yr 20 [19] rfl (ok_load_s · sc9 (.tmp rfl) rfl (ldS_out hp4)) ?_
      try dsimp only [w0, w1, w2, w3]
      refine yf 21 [1] rfl (ok_move · (.tmp rfl)) ?_
      refine yf 22 [5] rfl (ok_move · (.tmp rfl)) ?_
      obtain ⟨p5, hp5, h⟩ := bindo h
      refine yr 23 [21, 22] rfl (ok_indexAddr (s := y1) · tu40 sz9 (.tmp rfl) (.tmp rfl) hp5) ?_
      obtain ⟨p6, hp6, h⟩ := bindo h
      refine yr 24 [23] rfl (ok_load_s · sc9 (.tmp rfl) rfl (ldS_out hp6)) ?_
      try dsimp only [w0, w1, w2, w3]
      refine yf 25 [20, 24] rfl (ok_sbin · (.tmp rfl) (.tmp rfl) rfl) ?_
      refine x_rest rfl ?_
      refine hr_region_end ?_
      try dsimp only [w0, w1, w2, w3]
      rcases ifc h with ⟨hc7, h⟩ | ⟨hc7, h⟩
      · refine q_cond_t rfl (.tmp rfl) hc7 ?_
        refine q_seq rfl ?_
        refine q_region rfl rfl ?_
        refine qS 4 rfl (ok_assign · (.bool _)) ?_
        refine hr_region_end ?_
        try dsimp only [w0, w1, w2, w3]
        cases h
        exact q_ret rfl at_.at_ rfl (res1 rfl rfl) ⟨rfl, rfl⟩
      · refine q_cond_f rfl (.tmp rfl) (bfalse hc7) ?_
        refine q_skipc rfl ?_
        refine hr_inBlock ?_
        refine q_region rfl rfl ?_
        refine qS 15 rfl (ok_move · (.tmp rfl)) ?_
        refine qS 16 rfl (ok_ibin · (.tmp rfl) (.int _ _) rfl) ?_
        refine qS 5 rfl (ok_assign · (.tmp rfl)) ?_
        refine hr_region_end ?_
        try dsimp only [w0, w1, w2, w3]
        try dsimp only [w0, w1, w2, w3]
        exact ih h
    · refine q_cond_f rfl (.tmp rfl) (decide_eq_false hc2) ?_
      refine q_exit rfl rfl ?_
      refine q_seq rfl ?_
      refine q_region rfl rfl ?_
      refine qS 4 rfl (ok_assign · (.bool _)) ?_
      refine hr_region_end ?_
      try dsimp only [w0, w1, w2, w3]
      cases h
      exact q_ret rfl at_.at_ rfl (res1 rfl rfl) ⟨rfl, rfl⟩
def f (k : Nat) (x0 : Sl) (x1 : Sl) (S : HS) : Option ((Bool) × HS) :=
  (if (!decide ((Sl.len x0 : Int) = (Sl.len x1 : Int))) = true then
  some (false, S) else
  L0 k k x0 x1 0 S)
theorem snd {k : Nat} {x0 : Sl} {x1 : Sl} {S : HS}  {p : (Bool) × HS} (h : f k x0 x1 S = some p) : HCall Try.prog base W0 β0 21 [(Sl.hv x0), (Sl.hv x1)] S (fun v S1 => v = (.bool p.1) ∧ S1 = p.2) := by
  unfold f at h
  refine HCall.of_run at_.at_ body ?_
  show HRun Try.prog base W0 β0 21 none [.code c0] ⟨[(Sl.hv x0), (Sl.hv x1), τ, τ, τ, τ, τ, τ, τ, τ, τ, τ, τ, τ, τ, τ, τ, τ, τ, τ, τ, τ, τ, τ, τ, τ], []⟩ S _
  refine q_seq rfl ?_
  refine q_region rfl rfl ?_
  refine qS 4 rfl (ok_assign · (.bool _)) ?_
  refine hr_region_end ?_
  try dsimp only [w0, w1, w2, w3]
  refine q_seq rfl ?_
  refine q_seq rfl ?_
  refine q_region rfl rfl ?_
  refine qS 6 rfl (ok_move · (.tmp rfl)) ?_
  refine qS 7 rfl (ok_len_sl (q := Sl.a x0) (n := Sl.len x0) (z := Sl.cap x0) · rfl tu40 (.tmp rfl)) ?_
  refine qS 8 rfl (ok_move · (.tmp rfl)) ?_
  refine qS 9 rfl (ok_len_sl (q := Sl.a x1) (n := Sl.len x1) (z := Sl.cap x1) · rfl tu40 (.tmp rfl)) ?_
  try dsimp only [w0, w1, w2, w3]
  refine qS 10 rfl (ok_ibin · (.tmp rfl) (.tmp rfl) rfl) ?_
  refine hr_region_end ?_
  try dsimp only [w0, w1, w2, w3]
  rcases ifc h with ⟨hc1, h⟩ | ⟨hc1, h⟩
  · refine q_cond_t rfl (.tmp rfl) hc1 ?_
    refine q_seq rfl ?_
    refine q_region rfl rfl ?_
    refine qS 4 rfl (ok_assign · (.bool _)) ?_
    refine hr_region_end ?_
    try dsimp only [w0, w1, w2, w3]
    cases h
    exact q_ret rfl at_.at_ rfl (res1 rfl rfl) ⟨rfl, rfl⟩
  · refine q_cond_f rfl (.tmp rfl) (bfalse hc1) ?_
    refine q_skipc rfl ?_
    refine q_seq rfl ?_
    refine q_seq rfl ?_
    refine q_region rfl rfl ?_
    refine qS 5 rfl (ok_assign · (.int _ _)) ?_
    refine hr_region_end ?_
    try dsimp only [w0, w1, w2, w3]
    refine q_block rfl ?_
    refine q_loop rfl ?_
    try dsimp only [w0, w1, w2, w3]
    exact L0_snd  h
end
end rollcallref01_Texts
namespace rollcallref10_Has
theorem at_ : FnAt Try.prog 24 Try.f24 := ⟨Try.func24, by kernel_rfl⟩
noncomputable def d0 := (Try.f24.body).getD .skip
noncomputable def r1 := kR (kA d0)
noncomputable def r4 := kR (kA (kA (kB d0)))
noncomputable def d5 := kB (kA (kB d0))
noncomputable def r9 := kR (kA (kA (kA (kA d5))))
noncomputable def d15 := kA (kA (kB (kA (kA d5))))
noncomputable def r16 := kR (kA d15)
noncomputable def r19 := kR (kA (kA (kB d15)))
noncomputable def r22 := kR (kB (kB (kA (kA d5))))
noncomputable def r24 := kR (kA (kB (kB d0)))
noncomputable def c23 : Code := .seq (.region 6 r24 false) .ret
noncomputable def c7 : Code := .seq (.seq (.region 2 r9 false) (.cond (.tmp 9) .skip (.exit 0))) (.seq (.block 1 (.seq (.region 4 r16 false) (.cond (.tmp 17) (.seq (.region 5 r19 false) .ret) .skip))) (.region 3 r22 false))
noncomputable def c0 : Code := .seq (.region 0 r1 false) (.seq (.seq (.region 1 r4 false) (.block 0 (.loop c7))) c23)
theorem body : Try.f24.body = some c0 := by kernel_rfl
section
variable {base : Nat} {W0 : World} {β0 : Bt}
def L0 (k : Nat) : Nat → Sl → Int → Int → HS → Option ((Bool) × HS)
  | 0, _, _, _, _ => none
  | n + 1, y0, y1, y5, S =>
    (if y5 < (Sl.len y0 : Int) then
    (Option.bind (HS.idx S y0 y5 1) fun p2 =>
    (Option.bind (HS.ldI S .i64 p2) fun p3 =>
    (if p3 = y1 then
    some (true, S) else
    (L0 k n) y0 y1 (w64 (y5 + 1)) S))) else
    some (false, S))
theorem L0_snd {k : Nat}  : ∀ {n : Nat} ⦃y0 : Sl⦄ ⦃y1 : Int⦄ ⦃y5 : Int⦄ ⦃S : HS⦄ ⦃p : (Bool) × HS⦄ ⦃g2 g3 g4 g6 g7 g8 g9 g10 g11 g12 g13 g14 g15 g16 g17 : HV⦄, L0 k n y0 y1 y5 S = some p → HRun Try.prog base W0 β0 24 none [.inLoop c7, .inBlock 0, .code c23] ⟨[(Sl.hv y0), (.int .i64 y1), g2, g3, g4, (.int .i64 y5), g6, g7, g8, g9, g10, g11, g12, g13, g14, g15, g16, g17], []⟩ S (fun v S1 => v = (.bool p.1) ∧ S1 = p.2) := by
  intro n
  induction n with
  | zero => intro _ _ _ _ _ _ _ _ _ _ _ _ _ _ _ _ _ _ _ _ h; cases h
  | succ n ih =>
    intro y0 y1 y5 S p g2 g3 g4 g6 g7 g8 g9 g10 g11 g12 g13 g14 g15 g16 g17 h
    simp only [L0] at h
    refine hr_inLoop ?_
    refine q_seq rfl ?_
    refine q_seq rfl ?_
    refine q_region rfl rfl ?_
    refine qS 6 rfl (ok_move · (.tmp rfl)) ?_
    refine qS 7 rfl (ok_move · (.tmp rfl)) ?_
    refine qS 8 rfl (ok_len_sl (q := Sl.a y0) (n := Sl.len y0) (z := Sl.cap y0) · rfl tu43 (.tmp rfl)) ?_
    refine qS 9 rfl (ok_ibin · (.tmp rfl) (.tmp rfl) rfl) ?_
    refine hr_region_end ?_
    try dsimp only [w0, w1, w2, w3]
    rcases ifc h with ⟨hc1, h⟩ | ⟨hc1, h⟩
    · refine q_cond_t rfl (.tmp rfl) (decide_eq_true hc1) ?_
      refine q_skipc rfl ?_
      refine q_seq rfl ?_
      refine q_block rfl ?_
      refine q_seq rfl ?_
      refine q_region rfl rfl ?_
      refine qS 12 rfl (ok_move · (.tmp rfl)) ?_
      refine qS 13 rfl (ok_move · (.tmp rfl)) ?_
      obtain ⟨p2, hp2, h⟩ := bindo h
      refine qS 14 rfl (ok_indexAddr (s := y0) · tu43 sz3 (.tmp rfl) (.tmp rfl) hp2) ?_
      obtain ⟨p3, hp3, h⟩ := bindo h
      refine qS 15 rfl (ok_load_s · sc3 (.tmp rfl) rfl (ldI_out hp3)) ?_
      try dsimp only [w0, w1, w2, w3]
      refine qS 16 rfl (ok_move · (.tmp rfl)) ?_
      refine qS 17 rfl (ok_ibin · (.tmp rfl) (.tmp rfl) rfl) ?_
      refine hr_region_end ?_
      try dsimp only [w0, w1, w2, w3]
      rcases ifc h with ⟨hc4, h⟩ | ⟨hc4, h⟩
      · refine q_cond_t rfl (.tmp rfl) (decide_eq_true hc4) ?_
        refine q_seq rfl ?_
        refine q_region rfl rfl ?_
        refine qS 4 rfl (ok_assign · (.bool _)) ?_
        refine hr_region_end ?_
        try dsimp only [w0, w1, w2, w3]
        cases h
        exact q_ret rfl at_.at_ rfl (res1 rfl rfl) ⟨rfl, rfl⟩
      · refine q_cond_f rfl (.tmp rfl) (decide_eq_false hc4) ?_
        refine q_skipc rfl ?_
        refine hr_inBlock ?_
        refine q_region rfl rfl ?_
        refine qS 10 rfl (ok_move · (.tmp rfl)) ?_
        refine qS 11 rfl (ok_ibin · (.tmp rfl) (.int _ _) rfl) ?_
        refine qS 5 rfl (ok_assign · (.tmp rfl)) ?_
        refine hr_region_end ?_
        try dsimp only [w0, w1, w2, w3]
        try dsimp only [w0, w1, w2, w3]
        exact ih h
    · refine q_cond_f rfl (.tmp rfl) (decide_eq_false hc1) ?_
      refine q_exit rfl rfl ?_
      refine q_seq rfl ?_
      refine q_region rfl rfl ?_
      refine qS 4 rfl (ok_assign · (.bool _)) ?_
      refine hr_region_end ?_
      try dsimp only [w0, w1, w2, w3]
      cases h
      exact q_ret rfl at_.at_ rfl (res1 rfl rfl) ⟨rfl, rfl⟩
def f (k : Nat) (x0 : Sl) (x1 : Int) (S : HS) : Option ((Bool) × HS) :=
  L0 k k x0 x1 0 S
theorem snd {k : Nat} {x0 : Sl} {x1 : Int} {S : HS}  {p : (Bool) × HS} (h : f k x0 x1 S = some p) : HCall Try.prog base W0 β0 24 [(Sl.hv x0), (.int .i64 x1)] S (fun v S1 => v = (.bool p.1) ∧ S1 = p.2) := by
  unfold f at h
  refine HCall.of_run at_.at_ body ?_
  show HRun Try.prog base W0 β0 24 none [.code c0] ⟨[(Sl.hv x0), (.int .i64 x1), τ, τ, τ, τ, τ, τ, τ, τ, τ, τ, τ, τ, τ, τ, τ, τ], []⟩ S _
  refine q_seq rfl ?_
  refine q_region rfl rfl ?_
  refine qS 4 rfl (ok_assign · (.bool _)) ?_
  refine hr_region_end ?_
  try dsimp only [w0, w1, w2, w3]
  refine q_seq rfl ?_
  refine q_seq rfl ?_
  refine q_region rfl rfl ?_
  refine qS 5 rfl (ok_assign · (.int _ _)) ?_
  refine hr_region_end ?_
  try dsimp only [w0, w1, w2, w3]
  refine q_block rfl ?_
  refine q_loop rfl ?_
  try dsimp only [w0, w1, w2, w3]
  exact L0_snd  h
end
end rollcallref10_Has
namespace rollcallref10_Add
theorem at_ : FnAt Try.prog 38 Try.f38 := ⟨Try.func38, by kernel_rfl⟩
noncomputable def d0 := (Try.f38.body).getD .skip
noncomputable def r1 := kR (kA d0)
noncomputable def r4 := kR (kA (kA (kB d0)))
noncomputable def r7 := kR (kA (kA (kB (kA (kB d0)))))
noncomputable def r11 := kR (kA (kB (kB d0)))
noncomputable def d12 := kB (kB (kB d0))
noncomputable def r13 := kR (kA d12)
noncomputable def r16 := kR (kA (kA (kB d12)))
noncomputable def d17 := kB (kA (kB d12))
noncomputable def r21 := kR (kA (kA (kA (kA d17))))
noncomputable def d25 := kB (kA (kA d17))
noncomputable def r29 := kR (kA (kA (kA (kA d25))))
noncomputable def d31 := kA (kB (kA (kA (kA d25))))
noncomputable def r32 := kR (kA d31)
noncomputable def r33 := kR (kB d31)
noncomputable def r35 := kR (kB (kA (kA d25)))
noncomputable def r36 := kR (kB d25)
noncomputable def r39 := kR (kA (kA (kB (kB d12))))
noncomputable def r41 := kR (kA (kB (kA (kB (kB d12)))))
noncomputable def r44 := kR (kA (kB (kB (kB d12))))
noncomputable def c43 : Code := .seq (.region 14 r44 false) .ret
noncomputable def c37 : Code := .seq (.seq (.region 12 r39 false) (.cond (.tmp 40) (.region 13 r41 false) .skip)) c43
noncomputable def c36 : Code := .region 7 r36 false
noncomputable def c35 : Code := .region 11 r35 false
noncomputable def c30 : Code := .cond (.tmp 27) (.seq (.region 9 r32 false) (.region 10 r33 false)) .skip
noncomputable def c19 : Code := .seq (.seq (.region 6 r21 false) (.cond (.tmp 15) .skip (.exit 0))) (.seq (.block 1 (.seq (.seq (.region 8 r29 false) c30) c35)) c36)
noncomputable def c0 : Code := .seq (.region 0 r1 false) (.seq (.seq (.region 1 r4 false) (.cond (.tmp 10) (.seq (.region 2 r7 false) .ret) .skip)) (.seq (.region 3 r11 false) (.seq (.region 4 r13 false) (.seq (.seq (.region 5 r16 false) (.block 0 (.loop c19))) c37))))
theorem body : Try.f38.body = some c0 := by kernel_rfl
section
variable {base : Nat} {W0 : World} {β0 : Bt}
def J2 (k : Nat) (rec0 : Sl → Int → Sl → Bool → Int → HS → Option ((Sl) × HS)) (y0 : Sl) (y1 : Int) (y5 : Sl) (y6 : Bool) (y7 : Int) (S : HS) : Option ((Sl) × HS) :=
  (Option.bind (HS.idx S y0 y7 1) fun p11 =>
  (Option.bind (HS.ldI S .i64 p11) fun p12 =>
  (letv (HS.lit S [[(.int .i64 p12)]] 1) fun p13 =>
  (Option.bind (HS.rows (p13.2) (p13.1) 1) fun p14 =>
  (Option.bind (HS.app (p13.2) y5 p14 1) fun p15 =>
  rec0 y0 y1 (p15.1) y6 (w64 (y7 + 1)) (p15.2))))))
theorem J2_snd {k : Nat} {rec0 : Sl → Int → Sl → Bool → Int → HS → Option ((Sl) × HS)} (hrec0 : ∀ ⦃y0 : Sl⦄ ⦃y1 : Int⦄ ⦃y5 : Sl⦄ ⦃y6 : Bool⦄ ⦃y7 : Int⦄ ⦃S : HS⦄ ⦃p : (Sl) × HS⦄ ⦃g2 g3 g4 g8 g9 g10 g11 g12 g13 g14 g15 g16 g17 g18 g19 g20 g21 g22 g23 g24 g25 g26 g27 g28 g29 g30 g31 g32 g33 g34 g35 g36 g37 g38 g39 g40 g41 g42 g43 g44 g45 : HV⦄, rec0 y0 y1 y5 y6 y7 S = some p → HRun Try.prog base W0 β0 38 none [.inLoop c19, .inBlock 0, .code c37] ⟨[(Sl.hv y0), (.int .i64 y1), g2, g3, g4, (Sl.hv y5), (.bool y6), (.int .i64 y7), g8, g9, g10, g11, g12, g13, g14, g15, g16, g17, g18, g19, g20, g21, g22, g23, g24, g25, g26, g27, g28, g29, g30, g31, g32, g33, g34, g35, g36, g37, g38, g39, g40, g41, g42, g43, g44, g45], []⟩ S (fun v S1 => v = (Sl.hv p.1) ∧ S1 = p.2)) {y0 : Sl} {y1 : Int} {y5 : Sl} {y6 : Bool} {y7 : Int} {S : HS} {p : (Sl) × HS} {g2 g3 g4 g8 g9 g10 g11 g12 g13 g14 g15 g16 g17 g18 g19 g20 g21 g22 g23 g24 g25 g26 g27 g28 g29 g30 g31 g32 g33 g34 g35 g36 g37 g38 g39 g40 g41 g42 g43 g44 g45 : HV} (h : J2 k rec0 y0 y1 y5 y6 y7 S = some p) : HRun Try.prog base W0 β0 38 none [.code c35, .inBlock 1, .code c36, .inLoop c19, .inBlock 0, .code c37] ⟨[(Sl.hv y0), (.int .i64 y1), g2, g3, g4, (Sl.hv y5), (.bool y6), (.int .i64 y7), g8, g9, g10, g11, g12, g13, g14, g15, g16, g17, g18, g19, g20, g21, g22, g23, g24, g25, g26, g27, g28, g29, g30, g31, g32, g33, g34, g35, g36, g37, g38, g39, g40, g41, g42, g43, g44, g45], []⟩ S (fun v S1 => v = (Sl.hv p.1) ∧ S1 = p.2) := by
  unfold J2 at h
  refine q_region rfl rfl ?_
  refine qS 32 rfl (ok_move · (.tmp rfl)) ?_
  refine qS 33 rfl (ok_move · (.tmp rfl)) ?_
  refine qS 34 rfl (ok_move · (.tmp rfl)) ?_
  obtain ⟨p11, hp11, h⟩ := bindo h
  refine qS 35 rfl (ok_indexAddr (s := y0) · tu43 sz3 (.tmp rfl) (.tmp rfl) hp11) ?_
  try dsimp only [w0, w1, w2, w3]
  obtain ⟨p12, hp12, h⟩ := bindo h
  refine qS 36 rfl (ok_load_s · sc3 (.tmp rfl) rfl (ldI_out hp12)) ?_
  obtain ⟨p13, hp13, h⟩ := leto h
  refine qS 37 rfl (ok_buildSlice_s (xs := [(.tmp 36)]) el43 · rfl rfl (by decide) (.cons (.tmp rfl) Evs.nil) rfl rfl hp13) ?_
  obtain ⟨p14, hp14, h⟩ := bindo h
  obtain ⟨p15, hp15, h⟩ := bindo h
  refine qS 38 rfl (ok_append (s := y5) (s1 := (p13.1)) el43 · rfl rfl ⟨_, tu43⟩ (.tmp rfl) (.tmp rfl) hp14 hp15) ?_
  refine qS 5 rfl (ok_assign · (.tmp rfl)) ?_
  refine hr_region_end ?_
  try dsimp only [w0, w1, w2, w3]
  refine hr_inBlock ?_
  refine q_region rfl rfl ?_
  refine qS 16 rfl (ok_move · (.tmp rfl)) ?_
  refine qS 17 rfl (ok_ibin · (.tmp rfl) (.int _ _) rfl) ?_
  refine qS 7 rfl (ok_assign · (.tmp rfl)) ?_
  refine hr_region_end ?_
  try dsimp only [w0, w1, w2, w3]
  try dsimp only [w0, w1, w2, w3]
  exact hrec0 h
def J1 (k : Nat) (rec0 : Sl → Int → Sl → Bool → Int → HS → Option ((Sl) × HS)) (y0 : Sl) (y1 : Int) (y5 : Sl) (y6 : Bool) (y7 : Int) (y27 : Bool) (S : HS) : Option ((Sl) × HS) :=
  (if y27 = true then
  (letv (HS.lit S [[(.int .i64 y1)]] 1) fun p8 =>
  (Option.bind (HS.rows (p8.2) (p8.1) 1) fun p9 =>
  (Option.bind (HS.app (p8.2) y5 p9 1) fun p10 =>
  J2 k rec0 y0 y1 (p10.1) true y7 (p10.2)))) else
  J2 k rec0 y0 y1 y5 y6 y7 S)
theorem J1_snd {k : Nat} {rec0 : Sl → Int → Sl → Bool → Int → HS → Option ((Sl) × HS)} (hrec0 : ∀ ⦃y0 : Sl⦄ ⦃y1 : Int⦄ ⦃y5 : Sl⦄ ⦃y6 : Bool⦄ ⦃y7 : Int⦄ ⦃S : HS⦄ ⦃p : (Sl) × HS⦄ ⦃g2 g3 g4 g8 g9 g10 g11 g12 g13 g14 g15 g16 g17 g18 g19 g20 g21 g22 g23 g24 g25 g26 g27 g28 g29 g30 g31 g32 g33 g34 g35 g36 g37 g38 g39 g40 g41 g42 g43 g44 g45 : HV⦄, rec0 y0 y1 y5 y6 y7 S = some p → HRun Try.prog base W0 β0 38 none [.inLoop c19, .inBlock 0, .code c37] ⟨[(Sl.hv y0), (.int .i64 y1), g2, g3, g4, (Sl.hv y5), (.bool y6), (.int .i64 y7), g8, g9, g10, g11, g12, g13, g14, g15, g16, g17, g18, g19, g20, g21, g22, g23, g24, g25, g26, g27, g28, g29, g30, g31, g32, g33, g34, g35, g36, g37, g38, g39, g40, g41, g42, g43, g44, g45], []⟩ S (fun v S1 => v = (Sl.hv p.1) ∧ S1 = p.2)) {y0 : Sl} {y1 : Int} {y5 : Sl} {y6 : Bool} {y7 : Int} {y27 : Bool} {S : HS} {p : (Sl) × HS} {g2 g3 g4 g8 g9 g10 g11 g12 g13 g14 g15 g16 g17 g18 g19 g20 g21 g22 g23 g24 g25 g26 g28 g29 g30 g31 g32 g33 g34 g35 g36 g37 g38 g39 g40 g41 g42 g43 g44 g45 : HV} (h : J1 k rec0 y0 y1 y5 y6 y7 y27 S = some p) : HRun Try.prog base W0 β0 38 none [.code c30, .code c35, .inBlock 1, .code c36, .inLoop c19, .inBlock 0, .code c37] ⟨[(Sl.hv y0), (.int .i64 y1), g2, g3, g4, (Sl.hv y5), (.bool y6), (.int .i64 y7), g8, g9, g10, g11, g12, g13, g14, g15, g16, g17, g18, g19, g20, g21, g22, g23, g24, g25, g26, (.bool y27), g28, g29, g30, g31, g32, g33, g34, g35, g36, g37, g38, g39, g40, g41, g42, g43, g44, g45], []⟩ S (fun v S1 => v = (Sl.hv p.1) ∧ S1 = p.2) := by
  unfold J1 at h
  rcases ifc h with ⟨hc7, h⟩ | ⟨hc7, h⟩
  · refine q_cond_t rfl (.tmp rfl) hc7 ?_
    refine q_seq rfl ?_
    refine q_region rfl rfl ?_
    refine qS 28 rfl (ok_move · (.tmp rfl)) ?_
    refine qS 29 rfl (ok_move · (.tmp rfl)) ?_
    obtain ⟨p8, hp8, h⟩ := leto h
    refine qS 30 rfl (ok_buildSlice_s (xs := [(.tmp 29)]) el43 · rfl rfl (by decide) (.cons (.tmp rfl) Evs.nil) rfl rfl hp8) ?_
    obtain ⟨p9, hp9, h⟩ := bindo h
    obtain ⟨p10, hp10, h⟩ := bindo h
    refine qS 31 rfl (ok_append (s := y5) (s1 := (p8.1)) el43 · rfl rfl ⟨_, tu43⟩ (.tmp rfl) (.tmp rfl) hp9 hp10) ?_
    try dsimp only [w0, w1, w2, w3]
    refine qS 5 rfl (ok_assign · (.tmp rfl)) ?_
    refine hr_region_end ?_
    try dsimp only [w0, w1, w2, w3]
    refine q_region rfl rfl ?_
    refine qS 6 rfl (ok_assign · (.bool _)) ?_
    refine hr_region_end ?_
    try dsimp only [w0, w1, w2, w3]
    try dsimp only [w0, w1, w2, w3]
    exact J2_snd hrec0 h
  · refine q_cond_f rfl (.tmp rfl) (bfalse hc7) ?_
    refine q_skipc rfl ?_
    try dsimp only [w0, w1, w2, w3]
    exact J2_snd hrec0 h
def J3 (k : Nat) (y5 : Sl) (S : HS) : Option ((Sl) × HS) :=
  some (y5, S)
theorem J3_snd {k : Nat}  {y5 : Sl} {S : HS} {p : (Sl) × HS} {g0 g1 g2 g3 g4 g6 g7 g8 g9 g10 g11 g12 g13 g14 g15 g16 g17 g18 g19 g20 g21 g22 g23 g24 g25 g26 g27 g28 g29 g30 g31 g32 g33 g34 g35 g36 g37 g38 g39 g40 g41 g42 g43 g44 g45 : HV} (h : J3 k y5 S = some p) : HRun Try.prog base W0 β0 38 none [.code c43] ⟨[g0, g1, g2, g3, g4, (Sl.hv y5), g6, g7, g8, g9, g10, g11, g12, g13, g14, g15, g16, g17, g18, g19, g20, g21, g22, g23, g24, g25, g26, g27, g28, g29, g30, g31, g32, g33, g34, g35, g36, g37, g38, g39, g40, g41, g42, g43, g44, g45], []⟩ S (fun v S1 => v = (Sl.hv p.1) ∧ S1 = p.2) := by
  unfold J3 at h
  refine q_seq rfl ?_
  refine q_region rfl rfl ?_
  refine qS 45 rfl (ok_move · (.tmp rfl)) ?_
  refine qS 4 rfl (ok_assign · (.tmp rfl)) ?_
  refine hr_region_end ?_
  try dsimp only [w0, w1, w2, w3]
  cases h
  exact q_ret rfl at_.at_ rfl (res1 rfl rfl) ⟨rfl, rfl⟩
def L0 (k : Nat) : Nat → Sl → Int → Sl → Bool → Int → HS → Option ((Sl) × HS)
  | 0, _, _, _, _, _, _ => none
  | n + 1, y0, y1, y5, y6, y7, S =>
    (if y7 < (Sl.len y0 : Int) then
    (if (!y6) = true then
    (Option.bind (HS.idx S y0 y7 1) fun p5 =>
    (Option.bind (HS.ldI S .i64 p5) fun p6 =>
    J1 k (L0 k n) y0 y1 y5 y6 y7 (decide (p6 > y1)) S)) else
    J1 k (L0 k n) y0 y1 y5 y6 y7 false S) else
    (if (!y6) = true then
    (letv (HS.lit S [[(.int .i64 y1)]] 1) fun p17 =>
    (Option.bind (HS.rows (p17.2) (p17.1) 1) fun p18 =>
    (Option.bind (HS.app (p17.2) y5 p18 1) fun p19 =>
    J3 k (p19.1) (p19.2)))) else
    J3 k y5 S))
theorem L0_snd {k : Nat}  : ∀ {n : Nat} ⦃y0 : Sl⦄ ⦃y1 : Int⦄ ⦃y5 : Sl⦄ ⦃y6 : Bool⦄ ⦃y7 : Int⦄ ⦃S : HS⦄ ⦃p : (Sl) × HS⦄ ⦃g2 g3 g4 g8 g9 g10 g11 g12 g13 g14 g15 g16 g17 g18 g19 g20 g21 g22 g23 g24 g25 g26 g27 g28 g29 g30 g31 g32 g33 g34 g35 g36 g37 g38 g39 g40 g41 g42 g43 g44 g45 : HV⦄, L0 k n y0 y1 y5 y6 y7 S = some p → HRun Try.prog base W0 β0 38 none [.inLoop c19, .inBlock 0, .code c37] ⟨[(Sl.hv y0), (.int .i64 y1), g2, g3, g4, (Sl.hv y5), (.bool y6), (.int .i64 y7), g8, g9, g10, g11, g12, g13, g14, g15, g16, g17, g18, g19, g20, g21, g22, g23, g24, g25, g26, g27, g28, g29, g30, g31, g32, g33, g34, g35, g36, g37, g38, g39, g40, g41, g42, g43, g44, g45], []⟩ S (fun v S1 => v = (Sl.hv p.1) ∧ S1 = p.2) := by
  intro n
  induction n with
  | zero => intro _ _ _ _ _ _ _ _ _ _ _ _ _ _ _ _ _ _ _ _ _ _ _ _ _ _ _ _ _ _ _ _ _ _ _ _ _ _ _ _ _ _ _ _ _ _ _ _ h; cases h
  | succ n ih =>
    intro y0 y1 y5 y6 y7 S p g2 g3 g4 g8 g9 g10 g11 g12 g13 g14 g15 g16 g17 g18 g19 g20 g21 g22 g23 g24 g25 g26 g27 g28 g29 g30 g31 g32 g33 g34 g35 g36 g37 g38 g39 g40 g41 g42 g43 g44 g45 h
    simp only [L0] at h
    refine hr_inLoop ?_
    refine q_seq rfl ?_
    refine q_seq rfl ?_
    refine q_region rfl rfl ?_
    refine qS 12 rfl (ok_move · (.tmp rfl)) ?_
    refine qS 13 rfl (ok_move · (.tmp rfl)) ?_
    refine qS 14 rfl (ok_len_sl (q := Sl.a y0) (n := Sl.len y0) (z := Sl.cap y0) · rfl tu43 (.tmp rfl)) ?_
    refine qS 15 rfl (ok_ibin · (.tmp rfl) (.tmp rfl) rfl) ?_
    refine hr_region_end ?_
    try dsimp only [w0, w1, w2, w3]
    rcases ifc h with ⟨hc3, h⟩ | ⟨hc3, h⟩
    · refine q_cond_t rfl (.tmp rfl) (decide_eq_true hc3) ?_
      refine q_skipc rfl ?_
      refine q_seq rfl ?_
      refine q_block rfl ?_
      refine q_seq rfl ?_
      refine q_seq rfl ?_
      refine q_region rfl rfl ?_
      refine qS 18 rfl (ok_move · (.tmp rfl)) ?_
      refine qS 19 rfl (ok_not · (.tmp rfl)) ?_
      refine qS 20 rfl (ok_move · (.tmp rfl)) ?_
      rcases ifc h with ⟨hc4, h⟩ | ⟨hc4, h⟩
      · refine qG 20 21 rfl hc4 (ok_move · (.tmp rfl)) ?_
        try dsimp only [w0, w1, w2, w3]
        refine qG 20 22 rfl hc4 (ok_move · (.tmp rfl)) ?_
        obtain ⟨p5, hp5, h⟩ := bindo h
        refine qG 20 23 rfl hc4 (ok_indexAddr (s := y0) · tu43 sz3 (.tmp rfl) (.tmp rfl) hp5) ?_
        obtain ⟨p6, hp6, h⟩ := bindo h
        refine qG 20 24 rfl hc4 (ok_load_s · sc3 (.tmp rfl) rfl (ldI_out hp6)) ?_
        refine qG 20 25 rfl hc4 (ok_move · (.tmp rfl)) ?_
        try dsimp only [w0, w1, w2, w3]
        refine qG 20 26 rfl hc4 (ok_ibin · (.tmp rfl) (.tmp rfl) rfl) ?_
        refine qS 27 rfl (ok_pick_tt · (.tmp rfl) hc4 (.tmp rfl)) ?_
        refine hr_region_end ?_
        try dsimp only [w0, w1, w2, w3]
        try dsimp only [w0, w1, w2, w3]
        exact J1_snd ih h
      · refine q_skip (dst := some 21) (t := 20) rfl rfl rfl (bfalse hc4) ?_
        try dsimp only [w0, w1, w2, w3]
        refine q_skip (dst := some 22) (t := 20) rfl rfl rfl (bfalse hc4) ?_
        refine q_skip (dst := some 23) (t := 20) rfl rfl rfl (bfalse hc4) ?_
        refine q_skip (dst := some 24) (t := 20) rfl rfl rfl (bfalse hc4) ?_
        refine q_skip (dst := some 25) (t := 20) rfl rfl rfl (bfalse hc4) ?_
        try dsimp only [w0, w1, w2, w3]
        refine q_skip (dst := some 26) (t := 20) rfl rfl rfl (bfalse hc4) ?_
        refine qS 27 rfl (ok_pick_ff · (.tmp rfl) (bfalse hc4) (.bool _)) ?_
        refine hr_region_end ?_
        try dsimp only [w0, w1, w2, w3]
        try dsimp only [w0, w1, w2, w3]
        exact J1_snd ih h
    · refine q_cond_f rfl (.tmp rfl) (decide_eq_false hc3) ?_
      refine q_exit rfl rfl ?_
      refine q_seq rfl ?_
      refine q_seq rfl ?_
      refine q_region rfl rfl ?_
      refine qS 39 rfl (ok_move · (.tmp rfl)) ?_
      refine qS 40 rfl (ok_not · (.tmp rfl)) ?_
      refine hr_region_end ?_
      try dsimp only [w0, w1, w2, w3]
      rcases ifc h with ⟨hc16, h⟩ | ⟨hc16, h⟩
      · refine q_cond_t rfl (.tmp rfl) hc16 ?_
        refine q_region rfl rfl ?_
        refine qS 41 rfl (ok_move · (.tmp rfl)) ?_
        refine qS 42 rfl (ok_move · (.tmp rfl)) ?_
        obtain ⟨p17, hp17, h⟩ := leto h
        refine qS 43 rfl (ok_buildSlice_s (xs := [(.tmp 42)]) el43 · rfl rfl (by decide) (.cons (.tmp rfl) Evs.nil) rfl rfl hp17) ?_
        obtain ⟨p18, hp18, h⟩ := bindo h
        obtain ⟨p19, hp19, h⟩ := bindo h
        refine qS 44 rfl (ok_append (s := y5) (s1 := (p17.1)) el43 · rfl rfl ⟨_, tu43⟩ (.tmp rfl) (.tmp rfl) hp18 hp19) ?_
        try dsimp only [w0, w1, w2, w3]
        refine qS 5 rfl (ok_assign · (.tmp rfl)) ?_
        refine hr_region_end ?_
        try dsimp only [w0, w1, w2, w3]
        try dsimp only [w0, w1, w2, w3]
        exact J3_snd  h
      · refine q_cond_f rfl (.tmp rfl) (bfalse hc16) ?_
        refine q_skipc rfl ?_
        try dsimp only [w0, w1, w2, w3]
        exact J3_snd  h
def f (k : Nat) (x0 : Sl) (x1 : Int) (S : HS) : Option ((Sl) × HS) :=
  (Option.bind (rollcallref10_Has.f k x0 x1 S) fun p1 =>
  (if p1.1 = true then
  some (x0, p1.2) else
  L0 k k x0 x1 Sl.nil false 0 p1.2))
theorem snd {k : Nat} {x0 : Sl} {x1 : Int} {S : HS}  {p : (Sl) × HS} (h : f k x0 x1 S = some p) : HCall Try.prog base W0 β0 38 [(Sl.hv x0), (.int .i64 x1)] S (fun v S1 => v = (Sl.hv p.1) ∧ S1 = p.2) := by
  unfold f at h
  refine HCall.of_run at_.at_ body ?_
  show HRun Try.prog base W0 β0 38 none [.code c0] ⟨[(Sl.hv x0), (.int .i64 x1), τ, τ, τ, τ, τ, τ, τ, τ, τ, τ, τ, τ, τ, τ, τ, τ, τ, τ, τ, τ, τ, τ, τ, τ, τ, τ, τ, τ, τ, τ, τ, τ, τ, τ, τ, τ, τ, τ, τ, τ, τ, τ, τ, τ], []⟩ S _
  refine q_seq rfl ?_
  refine q_region rfl rfl ?_
  refine qS 4 rfl (ok_assign · (.const fun _ => .slNil none)) ?_
  refine hr_region_end ?_
  try dsimp only [w0, w1, w2, w3]
  refine q_seq rfl ?_
  refine q_seq rfl ?_
  refine q_region rfl rfl ?_
  refine qS 8 rfl (ok_move · (.tmp rfl)) ?_
  refine qS 9 rfl (ok_move · (.tmp rfl)) ?_
  obtain ⟨p1, hp1, h⟩ := bindo h
  refine q_call (dst := some 10) rfl (.func _) (.cons (.tmp rfl) (.cons (.tmp rfl) Evs.nil)) (HInv.static rollcallref10_Has.at_ rollcallref10_Has.body (rollcallref10_Has.snd  hp1)) ?_
  rintro _ _ ⟨rfl, rfl⟩
  refine hr_region_end ?_
  try dsimp only [w0, w1, w2, w3]
  rcases ifc h with ⟨hc2, h⟩ | ⟨hc2, h⟩
  · refine q_cond_t rfl (.tmp rfl) hc2 ?_
    refine q_seq rfl ?_
    refine q_region rfl rfl ?_
    refine qS 11 rfl (ok_move · (.tmp rfl)) ?_
    refine qS 4 rfl (ok_assign · (.tmp rfl)) ?_
    refine hr_region_end ?_
    try dsimp only [w0, w1, w2, w3]
    cases h
    exact q_ret rfl at_.at_ rfl (res1 rfl rfl) ⟨rfl, rfl⟩
  · refine q_cond_f rfl (.tmp rfl) (bfalse hc2) ?_
    refine q_skipc rfl ?_
    refine q_seq rfl ?_
    refine q_region rfl rfl ?_
    refine qS 5 rfl (ok_assign · (.const fun _ => .slNil none)) ?_
    refine hr_region_end ?_
    try dsimp only [w0, w1, w2, w3]
    refine q_seq rfl ?_
    refine q_region rfl rfl ?_
    refine qS 6 rfl (ok_assign · (.bool _)) ?_
    refine hr_region_end ?_
    try dsimp only [w0, w1, w2, w3]
    refine q_seq rfl ?_
    refine q_seq rfl ?_
    refine q_region rfl rfl ?_
    refine qS 7 rfl (ok_assign · (.int _ _)) ?_
    refine hr_region_end ?_
    try dsimp only [w0, w1, w2, w3]
    refine q_block rfl ?_
    refine q_loop rfl ?_
    try dsimp only [w0, w1, w2, w3]
    exact L0_snd  h
end
end rollcallref10_Add
namespace rollcallref11_Rel_By
theorem at_ : FnAt Try.prog 23 Try.f23 := ⟨Try.func23, by kernel_rfl⟩
noncomputable def d0 := (Try.f23.body).getD .skip
noncomputable def r1 := kR (kA d0)
noncomputable def r3 := kR (kA (kB d0))
noncomputable def d5 := kA (kB (kB d0))
noncomputable def r6 := kR (kA d5)
noncomputable def d9 := kA (kA (kB d5))
noncomputable def r11 := kR (kA (kA d9))
noncomputable def r18 := kR (kA (kA (kA (kB d9))))
noncomputable def r20 := kR (kA (kB (kA (kA (kB d9)))))
noncomputable def r22 := kR (kB (kB d9))
noncomputable def r24 := kR (kA (kB (kB (kB d0))))
noncomputable def c23 : Code := .seq (.region 7 r24 false) .ret
noncomputable def c22 : Code := .region 4 r22 false
noncomputable def c9 : Code := .seq (.seq (.region 3 r11 false) (.cond (.tmp 13) .skip (.exit 0))) (.seq (.block 1 (.seq (.region 5 r18 false) (.cond (.tmp 25) (.region 6 r20 false) .skip))) c22)
noncomputable def c0 : Code := .seq (.region 0 r1 false) (.seq (.region 1 r3 false) (.seq (.seq (.region 2 r6 false) (.block 0 (.loop c9))) c23))
theorem body : Try.f23.body = some c0 := by kernel_rfl
section
variable {base : Nat} {W0 : World} {β0 : Bt}
def J1 (k : Nat) (rec0 : (Option HA) → (List UInt8) → Sl → Int → HS → Option ((Sl) × HS)) (y0 : (Option HA)) (y1 : (List UInt8)) (y5 : Sl) (y6 : Int) (S : HS) : Option ((Sl) × HS) :=
  rec0 y0 y1 y5 (w64 (y6 + 1)) S
theorem J1_snd {k : Nat} {rec0 : (Option HA) → (List UInt8) → Sl → Int → HS → Option ((Sl) × HS)} (hrec0 : ∀ ⦃y0 : (Option HA)⦄ ⦃y1 : (List UInt8)⦄ ⦃y5 : Sl⦄ ⦃y6 : Int⦄ ⦃S : HS⦄ ⦃p : (Sl) × HS⦄ ⦃g2 g3 g4 g7 g8 g9 g10 g11 g12 g13 g14 g15 g16 g17 g18 g19 g20 g21 g22 g23 g24 g25 g26 g27 g28 g29 g30 g31 g32 g33 g34 g35 g36 : HV⦄, rec0 y0 y1 y5 y6 S = some p → HRun Try.prog base W0 β0 23 none [.inLoop c9, .inBlock 0, .code c23] ⟨[(.ptr y0), (.str y1), g2, g3, g4, (Sl.hv y5), (.int .i64 y6), g7, g8, g9, g10, g11, g12, g13, g14, g15, g16, g17, g18, g19, g20, g21, g22, g23, g24, g25, g26, g27, g28, g29, g30, g31, g32, g33, g34, g35, g36], []⟩ S (fun v S1 => v = (Sl.hv p.1) ∧ S1 = p.2)) {y0 : (Option HA)} {y1 : (List UInt8)} {y5 : Sl} {y6 : Int} {S : HS} {p : (Sl) × HS} {g2 g3 g4 g7 g8 g9 g10 g11 g12 g13 g14 g15 g16 g17 g18 g19 g20 g21 g22 g23 g24 g25 g26 g27 g28 g29 g30 g31 g32 g33 g34 g35 g36 : HV} (h : J1 k rec0 y0 y1 y5 y6 S = some p) : HRun Try.prog base W0 β0 23 none [.code c22, .inLoop c9, .inBlock 0, .code c23] ⟨[(.ptr y0), (.str y1), g2, g3, g4, (Sl.hv y5), (.int .i64 y6), g7, g8, g9, g10, g11, g12, g13, g14, g15, g16, g17, g18, g19, g20, g21, g22, g23, g24, g25, g26, g27, g28, g29, g30, g31, g32, g33, g34, g35, g36], []⟩ S (fun v S1 => v = (Sl.hv p.1) ∧ S1 = p.2) := by
  unfold J1 at h
  refine q_region rfl rfl ?_
  refine qS 14 rfl (ok_move · (.tmp rfl)) ?_
  refine qS 15 rfl (ok_ibin · (.tmp rfl) (.int _ _) rfl) ?_
  refine qS 6 rfl (ok_assign · (.tmp rfl)) ?_
  refine hr_region_end ?_
  try dsimp only [w0, w1, w2, w3]
  try dsimp only [w0, w1, w2, w3]
  exact hrec0 h
def L0 (k : Nat) : Nat → (Option HA) → (List UInt8) → Sl → Int → HS → Option ((Sl) × HS)
  | 0, _, _, _, _, _ => none
  | n + 1, y0, y1, y5, y6, S =>
    (Option.bind (y0) fun p1 =>
    (Option.bind (HS.ldSl S (HA.fld p1 1)) fun p2 =>
    (if y6 < (Sl.len p2 : Int) then
    (Option.bind (y0) fun p4 =>
    (Option.bind (HS.ldSl S (HA.fld p4 1)) fun p5 =>
    (Option.bind (HS.idx S p5 y6 2) fun p6 =>
    (Option.bind (HS.ldS S (HA.fld p6 1)) fun p7 =>
    (if p7 = y1 then
    (Option.bind (y0) fun p9 =>
    (Option.bind (HS.ldSl S (HA.fld p9 1)) fun p10 =>
    (Option.bind (HS.idx S p10 y6 2) fun p11 =>
    (Option.bind (HS.ldI S .i64 (HA.fld p11 0)) fun p12 =>
    (Option.bind (rollcallref10_Add.f k y5 p12 S) fun p13 =>
    J1 k (L0 k n) y0 y1 p13.1 y6 p13.2))))) else
    J1 k (L0 k n) y0 y1 y5 y6 S))))) else
    some (y5, S))))
theorem L0_snd {k : Nat}  : ∀ {n : Nat} ⦃y0 : (Option HA)⦄ ⦃y1 : (List UInt8)⦄ ⦃y5 : Sl⦄ ⦃y6 : Int⦄ ⦃S : HS⦄ ⦃p : (Sl) × HS⦄ ⦃g2 g3 g4 g7 g8 g9 g10 g11 g12 g13 g14 g15 g16 g17 g18 g19 g20 g21 g22 g23 g24 g25 g26 g27 g28 g29 g30 g31 g32 g33 g34 g35 g36 : HV⦄, L0 k n y0 y1 y5 y6 S = some p → HRun Try.prog base W0 β0 23 none [.inLoop c9, .inBlock 0, .code c23] ⟨[(.ptr y0), (.str y1), g2, g3, g4, (Sl.hv y5), (.int .i64 y6), g7, g8, g9, g10, g11, g12, g13, g14, g15, g16, g17, g18, g19, g20, g21, g22, g23, g24, g25, g26, g27, g28, g29, g30, g31, g32, g33, g34, g35, g36], []⟩ S (fun v S1 => v = (Sl.hv p.1) ∧ S1 = p.2) := by
  intro n
  induction n with
  | zero => intro _ _ _ _ _ _ _ _ _ _ _ _ _ _ _ _ _ _ _ _ _ _ _ _ _ _ _ _ _ _ _ _ _ _ _ _ _ _ _ h; cases h
  | succ n ih =>
    intro y0 y1 y5 y6 S p g2 g3 g4 g7 g8 g9 g10 g11 g12 g13 g14 g15 g16 g17 g18 g19 g20 g21 g22 g23 g24 g25 g26 g27 g28 g29 g30 g31 g32 g33 g34 g35 g36 h
    simp only [L0] at h
    refine hr_inLoop ?_
    refine q_seq rfl ?_
    refine q_seq rfl ?_
    refine q_region rfl rfl ?_
    refine qS 7 rfl (ok_move · (.tmp rfl)) ?_
    refine qS 8 rfl (ok_move · (.tmp rfl)) ?_
    obtain ⟨p1, hp1, h⟩ := bindo h
    refine qS 9 rfl (ok_nilCheck_p · (.tmp rfl) hp1) ?_
    refine qS 10 rfl (ok_fieldAddr_s · fi32_1 (by decide) (.tmp rfl) rfl) ?_
    try dsimp only [w0, w1, w2, w3]
    obtain ⟨p2, hp2, h⟩ := bindo h
    refine qS 11 rfl (ok_load_s · sc30 (.tmp rfl) rfl (ldSl_out hp2)) ?_
    refine qS 12 rfl (ok_len_sl (q := Sl.a p2) (n := Sl.len p2) (z := Sl.cap p2) · rfl tu30 (.tmp rfl)) ?_
    refine qS 13 rfl (ok_ibin · (.tmp rfl) (.tmp rfl) rfl) ?_
    refine hr_region_end ?_
    try dsimp only [w0, w1, w2, w3]
    rcases ifc h with ⟨hc3, h⟩ | ⟨hc3, h⟩
    · refine q_cond_t rfl (.tmp rfl) (decide_eq_true hc3) ?_
      refine q_skipc rfl ?_
      refine q_seq rfl ?_
      refine q_block rfl ?_
      refine q_seq rfl ?_
      refine q_region rfl rfl ?_
      refine qS 16 rfl (ok_move · (.tmp rfl)) ?_
      obtain ⟨p4, hp4, h⟩ := bindo h
      refine qS 17 rfl (ok_nilCheck_p · (.tmp rfl) hp4) ?_
      refine qS 18 rfl (ok_fieldAddr_s · fi32_1 (by decide) (.tmp rfl) rfl) ?_
      obtain ⟨p5, hp5, h⟩ := bindo h
      refine qS 19 rfl (ok_load_s · sc30 (.tmp rfl) rfl (ldSl_out hp5)) ?_
      try dsimp only [w0, w1, w2, w3]
      refine qS 20 rfl (ok_move · (.tmp rfl)) ?_
      obtain ⟨p6, hp6, h⟩ := bindo h
      refine qS 21 rfl (ok_indexAddr (s := p5) · tu30 sz70 (.tmp rfl) (.tmp rfl) hp6) ?_
      refine qS 22 rfl (ok_fieldAddr_s · fi70_1 (by decide) (.tmp rfl) rfl) ?_
      obtain ⟨p7, hp7, h⟩ := bindo h
      refine qS 23 rfl (ok_load_s · sc9 (.tmp rfl) rfl (ldS_out hp7)) ?_
      try dsimp only [w0, w1, w2, w3]
      refine qS 24 rfl (ok_move · (.tmp rfl)) ?_
      refine qS 25 rfl (ok_sbin · (.tmp rfl) (.tmp rfl) rfl) ?_
      refine hr_region_end ?_
      try dsimp only [w0, w1, w2, w3]
      rcases ifc h with ⟨hc8, h⟩ | ⟨hc8, h⟩
      · refine q_cond_t rfl (.tmp rfl) (decide_eq_true hc8) ?_
        refine q_region rfl rfl ?_
        refine qS 26 rfl (ok_move · (.tmp rfl)) ?_
        refine qS 27 rfl (ok_move · (.tmp rfl)) ?_
        obtain ⟨p9, hp9, h⟩ := bindo h
        refine qS 28 rfl (ok_nilCheck_p · (.tmp rfl) hp9) ?_
        refine qS 29 rfl (ok_fieldAddr_s · fi32_1 (by decide) (.tmp rfl) rfl) ?_
        try dsimp only [w0, w1, w2, w3]
        obtain ⟨p10, hp10, h⟩ := bindo h
        refine qS 30 rfl (ok_load_s · sc30 (.tmp rfl) rfl (ldSl_out hp10)) ?_
        refine qS 31 rfl (ok_move · (.tmp rfl)) ?_
        obtain ⟨p11, hp11, h⟩ := bindo h
        refine qS 32 rfl (ok_indexAddr (s := p10) · tu30 sz70 (.tmp rfl) (.tmp rfl) hp11) ?_
        refine qS 33 rfl (ok_fieldAddr_s · fi70_0 (by decide) (.tmp rfl) rfl) ?_
        try dsimp only [w0, w1, w2, w3]
        obtain ⟨p12, hp12, h⟩ := bindo h
        refine qS 34 rfl (ok_load_s · sc3 (.tmp rfl) rfl (ldI_out hp12)) ?_
        obtain ⟨p13, hp13, h⟩ := bindo h
        refine q_call (dst := some 35) rfl (.func _) (.cons (.tmp rfl) (.cons (.tmp rfl) Evs.nil)) (HInv.static rollcallref10_Add.at_ rollcallref10_Add.body (rollcallref10_Add.snd  hp13)) ?_
        rintro _ _ ⟨rfl, rfl⟩
        refine qS 5 rfl (ok_assign · (.tmp rfl)) ?_
        refine hr_region_end ?_
        try dsimp only [w0, w1, w2, w3]
        refine hr_inBlock ?_
        try dsimp only [w0, w1, w2, w3]
        exact J1_snd ih h
      · refine q_cond_f rfl (.tmp rfl) (decide_eq_false hc8) ?_
        refine q_skipc rfl ?_
        refine hr_inBlock ?_
        try dsimp only [w0, w1, w2, w3]
        exact J1_snd ih h
    · refine q_cond_f rfl (.tmp rfl) (decide_eq_false hc3) ?_
      refine q_exit rfl rfl ?_
      refine q_seq rfl ?_
      refine q_region rfl rfl ?_
      refine qS 36 rfl (ok_move · (.tmp rfl)) ?_
      refine qS 4 rfl (ok_assign · (.tmp rfl)) ?_
      refine hr_region_end ?_
      try dsimp only [w0, w1, w2, w3]
      cases h
      exact q_ret rfl at_.at_ rfl (res1 rfl rfl) ⟨rfl, rfl⟩
def f (k : Nat) (x0 : (Option HA)) (x1 : (List UInt8)) (S : HS) : Option ((Sl) × HS) :=
  L0 k k x0 x1 Sl.nil 0 S
theorem snd {k : Nat} {x0 : (Option HA)} {x1 : (List UInt8)} {S : HS}  {p : (Sl) × HS} (h : f k x0 x1 S = some p) : HCall Try.prog base W0 β0 23 [(.ptr x0), (.str x1)] S (fun v S1 => v = (Sl.hv p.1) ∧ S1 = p.2) := by
  unfold f at h
  refine HCall.of_run at_.at_ body ?_
  show HRun Try.prog base W0 β0 23 none [.code c0] ⟨[(.ptr x0), (.str x1), τ, τ, τ, τ, τ, τ, τ, τ, τ, τ, τ, τ, τ, τ, τ, τ, τ, τ, τ, τ, τ, τ, τ, τ, τ, τ, τ, τ, τ, τ, τ, τ, τ, τ, τ], []⟩ S _
  refine q_seq rfl ?_
  refine q_region rfl rfl ?_
  refine qS 4 rfl (ok_assign · (.const fun _ => .slNil none)) ?_
  refine hr_region_end ?_
  try dsimp only [w0, w1, w2, w3]
  refine q_seq rfl ?_
  refine q_region rfl rfl ?_
  refine qS 5 rfl (ok_assign · (.const fun _ => .slNil none)) ?_
  refine hr_region_end ?_
  try dsimp only [w0, w1, w2, w3]
  refine q_seq rfl ?_
  refine q_seq rfl ?_
  refine q_region rfl rfl ?_
  refine qS 6 rfl (ok_assign · (.int _ _)) ?_
  refine hr_region_end ?_
  try dsimp only [w0, w1, w2, w3]
  refine q_block rfl ?_
  refine q_loop rfl ?_
  try dsimp only [w0, w1, w2, w3]
  exact L0_snd  h
end
end rollcallref11_Rel_By
namespace rollcalllaw11_PairPlays
theorem at_ : FnAt Try.prog 3 Try.f3 := ⟨Try.func3, by kernel_rfl⟩
noncomputable def d0 := (Try.f3.body).getD .skip
noncomputable def r1 := kR (kA d0)
noncomputable def r4 := kR (kA (kA (kB d0)))
noncomputable def r7 := kR (kA (kA (kB (kA (kB d0)))))
noncomputable def r12 := kR (kA (kA (kB (kB d0))))
noncomputable def r15 := kR (kA (kA (kB (kA (kB (kB d0))))))
noncomputable def d18 := kB (kB (kB d0))
noncomputable def r19 := kR (kA d18)
noncomputable def r22 := kR (kA (kA (kB d18)))
noncomputable def r25 := kR (kA (kA (kB (kA (kB d18)))))
noncomputable def r30 := kR (kA (kA (kB (kB d18))))
noncomputable def r33 := kR (kA (kA (kB (kA (kB (kB d18))))))
noncomputable def d36 := kB (kB (kB d18))
noncomputable def r37 := kR (kA d36)
noncomputable def r40 := kR (kA (kA (kB d36)))
noncomputable def d41 := kB (kA (kB d36))
noncomputable def r45 := kR (kA (kA (kA (kA d41))))
noncomputable def d49 := kB (kA (kA d41))
noncomputable def r52 := kR (kA (kA (kA d49)))
noncomputable def d53 := kB (kA (kA d49))
noncomputable def r54 := kR (kA d53)
noncomputable def r57 := kR (kA (kA (kB d53)))
noncomputable def d58 := kB (kA (kB d53))
noncomputable def r60 := kR (kA (kA d58))
noncomputable def r62 := kR (kA (kB (kA d58)))
noncomputable def r64 := kR (kA (kB (kB (kA d58))))
noncomputable def r66 := kR (kA (kB (kB (kB (kA d58)))))
noncomputable def r67 := kR (kB (kB (kB (kB (kA d58)))))
noncomputable def r69 := kR (kA (kB (kB d53)))
noncomputable def r71 := kR (kA (kB (kB (kB d53))))
noncomputable def r73 := kR (kA (kB (kB (kB (kB d53)))))
noncomputable def r76 := kR (kA (kA (kB (kB (kB (kB (kB d53)))))))
noncomputable def r79 := kR (kB d49)
noncomputable def r81 := kR (kA (kB (kB d36)))
noncomputable def c80 : Code := .seq (.region 26 r81 false) .ret
noncomputable def c79 : Code := .region 13 r79 false
noncomputable def c74 : Code := .cond (.tmp 171) (.seq (.region 25 r76 false) .ret) .skip
noncomputable def c68 : Code := .seq (.region 22 r69 false) (.seq (.region 23 r71 false) (.seq (.region 24 r73 true) c74))
noncomputable def c43 : Code := .seq (.seq (.region 12 r45 false) (.cond (.tmp 44) .skip (.exit 0))) (.seq (.block 1 (.seq (.region 14 r52 false) (.seq (.region 15 r54 false) (.seq (.seq (.region 16 r57 false) (.block 2 (.seq (.region 18 r60 false) (.cond (.tmp 66) (.region 19 r62 true) (.seq (.region 20 r64 false) (.cond (.tmp 82) (.region 21 r66 true) (.region 17 r67 true))))))) c68)))) c79)
noncomputable def c28 : Code := .seq (.seq (.region 8 r30 false) (.cond (.tmp 37) (.seq (.region 9 r33 false) .ret) .skip)) (.seq (.region 10 r37 false) (.seq (.seq (.region 11 r40 false) (.block 0 (.loop c43))) c80))
noncomputable def c26 : Code := .ret
noncomputable def c23 : Code := .cond (.tmp 29) (.seq (.region 7 r25 false) c26) .skip
noncomputable def c0 : Code := .seq (.region 0 r1 false) (.seq (.seq (.region 1 r4 false) (.cond (.tmp 16) (.seq (.region 2 r7 false) .ret) .skip)) (.seq (.seq (.region 3 r12 false) (.cond (.tmp 18) (.seq (.region 4 r15 false) .ret) .skip)) (.seq (.region 5 r19 false) (.seq (.seq (.region 6 r22 false) c23) c28))))
theorem body : Try.f3.body = some c0 := by kernel_rfl
section
variable {base : Nat} {W0 : World} {β0 : Bt}
def J1 (D : Dp) (H : Hd) (k : Nat) (y35 : Bool) (S : HS) : Option ((Bool) × HS) :=
  some (y35, S)
theorem J1_snd {D : Dp} {H : Hd} {k : Nat} (hD : DSound Try.prog base W0 D) (hH : HSound Try.prog base W0 β0 H)  {y35 : Bool} {S : HS} {p : (Bool) × HS} {g0 g1 g2 g3 g4 g5 g6 g7 g8 g9 g10 g11 g12 g13 g14 g15 g16 g17 g18 g19 g20 g21 g22 g23 g24 g25 g26 g27 g28 g29 g30 g31 g32 g33 g34 g36 g37 g38 g39 g40 g41 g42 g43 g44 g45 g46 g47 g48 g49 g50 g51 g52 g53 g54 g55 g56 g57 g58 g59 g60 g61 g62 g63 g64 g65 g66 g67 g68 g69 g70 g71 g72 g73 g74 g75 g76 g77 g78 g79 g80 g81 g82 g83 g84 g85 g86 g87 g88 g89 g90 g91 g92 g93 g94 g95 g96 g97 g98 g99 g100 g101 g102 g103 g104 g105 g106 g107 g108 g109 g110 g111 g112 g113 g114 g115 g116 g117 g118 g119 g120 g121 g122 g123 g124 g125 g126 g127 g128 g129 g130 g131 g132 g133 g134 g135 g136 g137 g138 g139 g140 g141 g142 g143 g144 g145 g146 g147 g148 g149 g150 g151 g152 g153 g154 g155 g156 g157 g158 g159 g160 g161 g162 g163 g164 g165 g166 g167 g168 g169 g170 g171 : HV} (h : J1 D H k y35 S = some p) : HRun Try.prog base W0 β0 3 none [.inRegion r25 [6], .code c26, .code c28] ⟨[g0, g1, g2, g3, g4, g5, g6, g7, g8, g9, g10, g11, g12, g13, g14, g15, g16, g17, g18, g19, g20, g21, g22, g23, g24, g25, g26, g27, g28, g29, g30, g31, g32, g33, g34, (.bool y35), g36, g37, g38, g39, g40, g41, g42, g43, g44, g45, g46, g47, g48, g49, g50, g51, g52, g53, g54, g55, g56, g57, g58, g59, g60, g61, g62, g63, g64, g65, g66, g67, g68, g69, g70, g71, g72, g73, g74, g75, g76, g77, g78, g79, g80, g81, g82, g83, g84, g85, g86, g87, g88, g89, g90, g91, g92, g93, g94, g95, g96, g97, g98, g99, g100, g101, g102, g103, g104, g105, g106, g107, g108, g109, g110, g111, g112, g113, g114, g115, g116, g117, g118, g119, g120, g121, g122, g123, g124, g125, g126, g127, g128, g129, g130, g131, g132, g133, g134, g135, g136, g137, g138, g139, g140, g141, g142, g143, g144, g145, g146, g147, g148, g149, g150, g151, g152, g153, g154, g155, g156, g157, g158, g159, g160, g161, g162, g163, g164, g165, g166, g167, g168, g169, g170, g171], []⟩ S (fun v S1 => v = (.bool p.1) ∧ S1 = p.2) := by
  unfold J1 at h
  refine qS 4 rfl (ok_assign · (.tmp rfl)) ?_
  refine hr_region_end ?_
  try dsimp only [w0, w1, w2, w3]
  cases h
  exact q_ret rfl at_.at_ rfl (res1 rfl rfl) ⟨rfl, rfl⟩
def J4 (D : Dp) (H : Hd) (k : Nat) (rec0 : Sl → (Option HA) → (Option HA) → Int → HS → Option ((Bool) × HS)) (y1 : Sl) (y5 : (Option HA)) (y7 : (Option HA)) (y8 : Int) (y171 : Bool) (S : HS) : Option ((Bool) × HS) :=
  (if y171 = true then
  some (false, S) else
  rec0 y1 y5 y7 (w64 (y8 + 1)) S)
theorem J4_snd {D : Dp} {H : Hd} {k : Nat} {rec0 : Sl → (Option HA) → (Option HA) → Int → HS → Option ((Bool) × HS)} (hD : DSound Try.prog base W0 D) (hH : HSound Try.prog base W0 β0 H) (hrec0 : ∀ ⦃y1 : Sl⦄ ⦃y5 : (Option HA)⦄ ⦃y7 : (Option HA)⦄ ⦃y8 : Int⦄ ⦃S : HS⦄ ⦃p : (Bool) × HS⦄ ⦃g0 g2 g3 g4 g6 g9 g10 g11 g12 g13 g14 g15 g16 g17 g18 g19 g20 g21 g22 g23 g24 g25 g26 g27 g28 g29 g30 g31 g32 g33 g34 g35 g36 g37 g38 g39 g40 g41 g42 g43 g44 g45 g46 g47 g48 g49 g50 g51 g52 g53 g54 g55 g56 g57 g58 g59 g60 g61 g62 g63 g64 g65 g66 g67 g68 g69 g70 g71 g72 g73 g74 g75 g76 g77 g78 g79 g80 g81 g82 g83 g84 g85 g86 g87 g88 g89 g90 g91 g92 g93 g94 g95 g96 g97 g98 g99 g100 g101 g102 g103 g104 g105 g106 g107 g108 g109 g110 g111 g112 g113 g114 g115 g116 g117 g118 g119 g120 g121 g122 g123 g124 g125 g126 g127 g128 g129 g130 g131 g132 g133 g134 g135 g136 g137 g138 g139 g140 g141 g142 g143 g144 g145 g146 g147 g148 g149 g150 g151 g152 g153 g154 g155 g156 g157 g158 g159 g160 g161 g162 g163 g164 g165 g166 g167 g168 g169 g170 g171 : HV⦄, rec0 y1 y5 y7 y8 S = some p → HRun Try.prog base W0 β0 3 none [.inLoop c43, .inBlock 0, .code c80] ⟨[g0, (Sl.hv y1), g2, g3, g4, (.ptr y5), g6, (.ptr y7), (.int .i64 y8), g9, g10, g11, g12, g13, g14, g15, g16, g17, g18, g19, g20, g21, g22, g23, g24, g25, g26, g27, g28, g29, g30, g31, g32, g33, g34, g35, g36, g37, g38, g39, g40, g41, g42, g43, g44, g45, g46, g47, g48, g49, g50, g51, g52, g53, g54, g55, g56, g57, g58, g59, g60, g61, g62, g63, g64, g65, g66, g67, g68, g69, g70, g71, g72, g73, g74, g75, g76, g77, g78, g79, g80, g81, g82, g83, g84, g85, g86, g87, g88, g89, g90, g91, g92, g93, g94, g95, g96, g97, g98, g99, g100, g101, g102, g103, g104, g105, g106, g107, g108, g109, g110, g111, g112, g113, g114, g115, g116, g117, g118, g119, g120, g121, g122, g123, g124, g125, g126, g127, g128, g129, g130, g131, g132, g133, g134, g135, g136, g137, g138, g139, g140, g141, g142, g143, g144, g145, g146, g147, g148, g149, g150, g151, g152, g153, g154, g155, g156, g157, g158, g159, g160, g161, g162, g163, g164, g165, g166, g167, g168, g169, g170, g171], []⟩ S (fun v S1 => v = (.bool p.1) ∧ S1 = p.2)) {y1 : Sl} {y5 : (Option HA)} {y7 : (Option HA)} {y8 : Int} {y171 : Bool} {S : HS} {p : (Bool) × HS} {g0 g2 g3 g4 g6 g9 g10 g11 g12 g13 g14 g15 g16 g17 g18 g19 g20 g21 g22 g23 g24 g25 g26 g27 g28 g29 g30 g31 g32 g33 g34 g35 g36 g37 g38 g39 g40 g41 g42 g43 g44 g45 g46 g47 g48 g49 g50 g51 g52 g53 g54 g55 g56 g57 g58 g59 g60 g61 g62 g63 g64 g65 g66 g67 g68 g69 g70 g71 g72 g73 g74 g75 g76 g77 g78 g79 g80 g81 g82 g83 g84 g85 g86 g87 g88 g89 g90 g91 g92 g93 g94 g95 g96 g97 g98 g99 g100 g101 g102 g103 g104 g105 g106 g107 g108 g109 g110 g111 g112 g113 g114 g115 g116 g117 g118 g119 g120 g121 g122 g123 g124 g125 g126 g127 g128 g129 g130 g131 g132 g133 g134 g135 g136 g137 g138 g139 g140 g141 g142 g143 g144 g145 g146 g147 g148 g149 g150 g151 g152 g153 g154 g155 g156 g157 g158 g159 g160 g161 g162 g163 g164 g165 g166 g167 g168 g169 g170 : HV} (h : J4 D H k rec0 y1 y5 y7 y8 y171 S = some p) : HRun Try.prog base W0 β0 3 none [.code c74, .inBlock 1, .code c79, .inLoop c43, .inBlock 0, .code c80] ⟨[g0, (Sl.hv y1), g2, g3, g4, (.ptr y5), g6, (.ptr y7), (.int .i64 y8), g9, g10, g11, g12, g13, g14, g15, g16, g17, g18, g19, g20, g21, g22, g23, g24, g25, g26, g27, g28, g29, g30, g31, g32, g33, g34, g35, g36, g37, g38, g39, g40, g41, g42, g43, g44, g45, g46, g47, g48, g49, g50, g51, g52, g53, g54, g55, g56, g57, g58, g59, g60, g61, g62, g63, g64, g65, g66, g67, g68, g69, g70, g71, g72, g73, g74, g75, g76, g77, g78, g79, g80, g81, g82, g83, g84, g85, g86, g87, g88, g89, g90, g91, g92, g93, g94, g95, g96, g97, g98, g99, g100, g101, g102, g103, g104, g105, g106, g107, g108, g109, g110, g111, g112, g113, g114, g115, g116, g117, g118, g119, g120, g121, g122, g123, g124, g125, g126, g127, g128, g129, g130, g131, g132, g133, g134, g135, g136, g137, g138, g139, g140, g141, g142, g143, g144, g145, g146, g147, g148, g149, g150, g151, g152, g153, g154, g155, g156, g157, g158, g159, g160, g161, g162, g163, g164, g165, g166, g167, g168, g169, g170, (.bool y171)], []⟩ S (fun v S1 => v = (.bool p.1) ∧ S1 = p.2) := by
  unfold J4 at h
  rcases ifc h with ⟨hc37, h⟩ | ⟨hc37, h⟩
  · refine q_cond_t rfl (.tmp rfl) hc37 ?_
    refine q_seq rfl ?_
    refine q_region rfl rfl ?_
    refine qS 4 rfl (ok_assign · (.bool _)) ?_
    refine hr_region_end ?_
    try dsimp only [w0, w1, w2, w3]
    cases h
    exact q_ret rfl at_.at_ rfl (res1 rfl rfl) ⟨rfl, rfl⟩
  · refine q_cond_f rfl (.tmp rfl) (bfalse hc37) ?_
    refine q_skipc rfl ?_
    refine hr_inBlock ?_
    refine q_region rfl rfl ?_
    refine qS 45 rfl (ok_move · (.tmp rfl)) ?_
    refine qS 46 rfl (ok_ibin · (.tmp rfl) (.int _ _) rfl) ?_
    refine qS 8 rfl (ok_assign · (.tmp rfl)) ?_
    refine hr_region_end ?_
    try dsimp only [w0, w1, w2, w3]
    try dsimp only [w0, w1, w2, w3]
    exact hrec0 h
def J3 (D : Dp) (H : Hd) (k : Nat) (rec0 : Sl → (Option HA) → (Option HA) → Int → HS → Option ((Bool) × HS)) (y1 : Sl) (y5 : (Option HA)) (y7 : (Option HA)) (y8 : Int) (y9 : (Option HA)) (y10 : Bool) (S : HS) : Option ((Bool) × HS) :=
  (Option.bind (y9) fun p30 =>
  (Option.bind (HS.ldI S .i64 (HA.fld p30 1)) fun p31 =>
  (Option.bind (rollcalllaw11_rights.f D H y5 p31 99 S) fun p32 =>
  (Option.bind (y9) fun p33 =>
  (Option.bind (HS.ldS p32.2 (HA.fld p33 2)) fun p34 =>
  (Option.bind (rollcalllaw11_lefts.f D H y5 p34 99 p32.2) fun p35 =>
  (if (!y10) = true then
  J4 D H k rec0 y1 y5 y7 y8 true p35.2 else
  (if (!p32.1.2) = true then
  J4 D H k rec0 y1 y5 y7 y8 true p35.2 else
  (if (!p35.1.2) = true then
  J4 D H k rec0 y1 y5 y7 y8 true p35.2 else
  (Option.bind (pair_Rel_int_string_Len.f y5 p35.2) fun p40 =>
  (Option.bind (y7) fun p41 =>
  (Option.bind (HS.ldSl p40.2 (HA.fld p41 1)) fun p42 =>
  (Option.bind (HS.ldSl p35.2 (HA.fld p41 1)) fun p43 =>
  (if p43 = p42 then
  (if (!decide (p40.1 = (Sl.len p42 : Int))) = true then
  J4 D H k rec0 y1 y5 y7 y8 true p40.2 else
  (Option.bind (y9) fun p46 =>
  (Option.bind (HS.ldI p40.2 .i64 (HA.fld p46 1)) fun p47 =>
  (Option.bind (y9) fun p48 =>
  (Option.bind (HS.ldS p40.2 (HA.fld p48 2)) fun p49 =>
  (Option.bind (pair_Rel_int_string_Has.f k y5 p47 p49 p40.2) fun p50 =>
  (Option.bind (y9) fun p51 =>
  (Option.bind (HS.ldI p50.2 .i64 (HA.fld p51 1)) fun p52 =>
  (Option.bind (HS.ldI p40.2 .i64 (HA.fld p51 1)) fun p53 =>
  (if p53 = p52 then
  (Option.bind (y9) fun p55 =>
  (Option.bind (HS.ldS p50.2 (HA.fld p55 2)) fun p56 =>
  (Option.bind (HS.ldS p40.2 (HA.fld p55 2)) fun p57 =>
  (if p57 = p56 then
  (Option.bind (rollcallref11_Rel_Has.f k y7 p52 p56 p50.2) fun p59 =>
  (if (!(p50.1 == p59.1)) = true then
  J4 D H k rec0 y1 y5 y7 y8 true p59.2 else
  (Option.bind (y9) fun p61 =>
  (Option.bind (HS.ldI p59.2 .i64 (HA.fld p61 1)) fun p62 =>
  (Option.bind (pair_Rel_int_string_Count.f y5 p62 p59.2) fun p63 =>
  (Option.bind (y9) fun p64 =>
  (Option.bind (HS.ldI p63.2 .i64 (HA.fld p64 1)) fun p65 =>
  (Option.bind (HS.ldI p59.2 .i64 (HA.fld p64 1)) fun p66 =>
  (if p66 = p65 then
  (Option.bind (rollcallref11_Rel_Of.f k y7 p65 p63.2) fun p68 =>
  (if (!decide (p63.1 = (Sl.len p68.1 : Int))) = true then
  J4 D H k rec0 y1 y5 y7 y8 true p68.2 else
  (Option.bind (y9) fun p70 =>
  (Option.bind (HS.ldI p68.2 .i64 (HA.fld p70 1)) fun p71 =>
  (Option.bind (rollcallref11_Rel_Of.f k y7 p71 p68.2) fun p72 =>
  (Option.bind (rollcallref01_Texts.f k p32.1.1 p72.1 p72.2) fun p73 =>
  (if (!p73.1) = true then
  J4 D H k rec0 y1 y5 y7 y8 true p73.2 else
  (Option.bind (y9) fun p75 =>
  (Option.bind (HS.ldS p73.2 (HA.fld p75 2)) fun p76 =>
  (Option.bind (rollcallref11_Rel_By.f k y7 p76 p73.2) fun p77 =>
  (Option.bind (rollcallref10_Same.f k p35.1.1 p77.1 p77.2) fun p78 =>
  J4 D H k rec0 y1 y5 y7 y8 (!p78.1) p78.2))))))))))) else none))))))))) else none)))) else none)))))))))) else none))))))))))))))
theorem J3_snd {D : Dp} {H : Hd} {k : Nat} {rec0 : Sl → (Option HA) → (Option HA) → Int → HS → Option ((Bool) × HS)} (hD : DSound Try.prog base W0 D) (hH : HSound Try.prog base W0 β0 H) (hrec0 : ∀ ⦃y1 : Sl⦄ ⦃y5 : (Option HA)⦄ ⦃y7 : (Option HA)⦄ ⦃y8 : Int⦄ ⦃S : HS⦄ ⦃p : (Bool) × HS⦄ ⦃g0 g2 g3 g4 g6 g9 g10 g11 g12 g13 g14 g15 g16 g17 g18 g19 g20 g21 g22 g23 g24 g25 g26 g27 g28 g29 g30 g31 g32 g33 g34 g35 g36 g37 g38 g39 g40 g41 g42 g43 g44 g45 g46 g47 g48 g49 g50 g51 g52 g53 g54 g55 g56 g57 g58 g59 g60 g61 g62 g63 g64 g65 g66 g67 g68 g69 g70 g71 g72 g73 g74 g75 g76 g77 g78 g79 g80 g81 g82 g83 g84 g85 g86 g87 g88 g89 g90 g91 g92 g93 g94 g95 g96 g97 g98 g99 g100 g101 g102 g103 g104 g105 g106 g107 g108 g109 g110 g111 g112 g113 g114 g115 g116 g117 g118 g119 g120 g121 g122 g123 g124 g125 g126 g127 g128 g129 g130 g131 g132 g133 g134 g135 g136 g137 g138 g139 g140 g141 g142 g143 g144 g145 g146 g147 g148 g149 g150 g151 g152 g153 g154 g155 g156 g157 g158 g159 g160 g161 g162 g163 g164 g165 g166 g167 g168 g169 g170 g171 : HV⦄, rec0 y1 y5 y7 y8 S = some p → HRun Try.prog base W0 β0 3 none [.inLoop c43, .inBlock 0, .code c80] ⟨[g0, (Sl.hv y1), g2, g3, g4, (.ptr y5), g6, (.ptr y7), (.int .i64 y8), g9, g10, g11, g12, g13, g14, g15, g16, g17, g18, g19, g20, g21, g22, g23, g24, g25, g26, g27, g28, g29, g30, g31, g32, g33, g34, g35, g36, g37, g38, g39, g40, g41, g42, g43, g44, g45, g46, g47, g48, g49, g50, g51, g52, g53, g54, g55, g56, g57, g58, g59, g60, g61, g62, g63, g64, g65, g66, g67, g68, g69, g70, g71, g72, g73, g74, g75, g76, g77, g78, g79, g80, g81, g82, g83, g84, g85, g86, g87, g88, g89, g90, g91, g92, g93, g94, g95, g96, g97, g98, g99, g100, g101, g102, g103, g104, g105, g106, g107, g108, g109, g110, g111, g112, g113, g114, g115, g116, g117, g118, g119, g120, g121, g122, g123, g124, g125, g126, g127, g128, g129, g130, g131, g132, g133, g134, g135, g136, g137, g138, g139, g140, g141, g142, g143, g144, g145, g146, g147, g148, g149, g150, g151, g152, g153, g154, g155, g156, g157, g158, g159, g160, g161, g162, g163, g164, g165, g166, g167, g168, g169, g170, g171], []⟩ S (fun v S1 => v = (.bool p.1) ∧ S1 = p.2)) {y1 : Sl} {y5 : (Option HA)} {y7 : (Option HA)} {y8 : Int} {y9 : (Option HA)} {y10 : Bool} {S : HS} {p : (Bool) × HS} {g0 g2 g3 g4 g6 g11 g12 g13 g14 g15 g16 g17 g18 g19 g20 g21 g22 g23 g24 g25 g26 g27 g28 g29 g30 g31 g32 g33 g34 g35 g36 g37 g38 g39 g40 g41 g42 g43 g44 g45 g46 g47 g48 g49 g50 g51 g52 g53 g54 g55 g56 g57 g58 g59 g60 g61 g62 g63 g64 g65 g66 g67 g68 g69 g70 g71 g72 g73 g74 g75 g76 g77 g78 g79 g80 g81 g82 g83 g84 g85 g86 g87 g88 g89 g90 g91 g92 g93 g94 g95 g96 g97 g98 g99 g100 g101 g102 g103 g104 g105 g106 g107 g108 g109 g110 g111 g112 g113 g114 g115 g116 g117 g118 g119 g120 g121 g122 g123 g124 g125 g126 g127 g128 g129 g130 g131 g132 g133 g134 g135 g136 g137 g138 g139 g140 g141 g142 g143 g144 g145 g146 g147 g148 g149 g150 g151 g152 g153 g154 g155 g156 g157 g158 g159 g160 g161 g162 g163 g164 g165 g166 g167 g168 g169 g170 g171 : HV} (h : J3 D H k rec0 y1 y5 y7 y8 y9 y10 S = some p) : HRun Try.prog base W0 β0 3 none [.code c68, .inBlock 1, .code c79, .inLoop c43, .inBlock 0, .code c80] ⟨[g0, (Sl.hv y1), g2, g3, g4, (.ptr y5), g6, (.ptr y7), (.int .i64 y8), (.ptr y9), (.bool y10), g11, g12, g13, g14, g15, g16, g17, g18, g19, g20, g21, g22, g23, g24, g25, g26, g27, g28, g29, g30, g31, g32, g33, g34, g35, g36, g37, g38, g39, g40, g41, g42, g43, g44, g45, g46, g47, g48, g49, g50, g51, g52, g53, g54, g55, g56, g57, g58, g59, g60, g61, g62, g63, g64, g65, g66, g67, g68, g69, g70, g71, g72, g73, g74, g75, g76, g77, g78, g79, g80, g81, g82, g83, g84, g85, g86, g87, g88, g89, g90, g91, g92, g93, g94, g95, g96, g97, g98, g99, g100, g101, g102, g103, g104, g105, g106, g107, g108, g109, g110, g111, g112, g113, g114, g115, g116, g117, g118, g119, g120, g121, g122, g123, g124, g125, g126, g127, g128, g129, g130, g131, g132, g133, g134, g135, g136, g137, g138, g139, g140, g141, g142, g143, g144, g145, g146, g147, g148, g149, g150, g151, g152, g153, g154, g155, g156, g157, g158, g159, g160, g161, g162, g163, g164, g165, g166, g167, g168, g169, g170, g171], []⟩ S (fun v S1 => v = (.bool p.1) ∧ S1 = p.2) := by
  unfold J3 at h
  refine q_seq rfl ?_
  refine q_region rfl rfl ?_
  refine qS 94 rfl (ok_move · (.tmp rfl)) ?_
  obtain ⟨p30, hp30, h⟩ := bindo h
  refine qS 95 rfl (ok_fieldAddr_s · fi34_1 (by decide) (.tmp rfl) hp30) ?_
  obtain ⟨p31, hp31, h⟩ := bindo h
  refine qS 96 rfl (ok_load_s · sc3 (.tmp rfl) rfl (ldI_out hp31)) ?_
  obtain ⟨p32, hp32, h⟩ := bindo h
  refine q_call (dst := some 97) rfl (.func _) (.cons (.tmp rfl) (.cons (.tmp rfl) (.cons (.int _ _) Evs.nil))) (HInv.static rollcalllaw11_rights.at_ rollcalllaw11_rights.body (rollcalllaw11_rights.snd hD hH hp32)) ?_
  rintro _ _ ⟨rfl, rfl⟩
  try dsimp only [w0, w1, w2, w3]
  refine qS 93 rfl (ok_move · (.tmp rfl)) ?_
  refine qS 98 rfl (ok_extract · (.tmp rfl) rfl) ?_
  refine qS 99 rfl (ok_extract · (.tmp rfl) rfl) ?_
  refine qS 11 rfl (ok_assign · (.tmp rfl)) ?_
  try dsimp only [w0, w1, w2, w3]
  refine qS 12 rfl (ok_assign · (.tmp rfl)) ?_
  refine hr_region_end ?_
  try dsimp only [w0, w1, w2, w3]
  refine q_seq rfl ?_
  refine q_region rfl rfl ?_
  refine qS 101 rfl (ok_move · (.tmp rfl)) ?_
  obtain ⟨p33, hp33, h⟩ := bindo h
  refine qS 102 rfl (ok_fieldAddr_s · fi34_2 (by decide) (.tmp rfl) hp33) ?_
  obtain ⟨p34, hp34, h⟩ := bindo h
  refine qS 103 rfl (ok_load_s · sc9 (.tmp rfl) rfl (ldS_out hp34)) ?_
  obtain ⟨p35, hp35, h⟩ := bindo h
  refine q_call (dst := some 104) rfl (.func _) (.cons (.tmp rfl) (.cons (.tmp rfl) (.cons (.int _ _) Evs.nil))) (HInv.static rollcalllaw11_lefts.at_ rollcalllaw11_lefts.body (rollcalllaw11_lefts.snd hD hH hp35)) ?_
  rintro _ _ ⟨rfl, rfl⟩
  try dsimp only [w0, w1, w2, w3]
  refine qS 100 rfl (ok_move · (.tmp rfl)) ?_
  refine qS 105 rfl (ok_extract · (.tmp rfl) rfl) ?_
  refine qS 106 rfl (ok_extract · (.tmp rfl) rfl) ?_
  refine qS 13 rfl (ok_assign · (.tmp rfl)) ?_
  try dsimp only [w0, w1, w2, w3]
  refine qS 14 rfl (ok_assign · (.tmp rfl)) ?_
  refine hr_region_end ?_
  try dsimp only [w0, w1, w2, w3]
  refine q_seq rfl ?_
  refine x_start (cls := [0, 0, 0, 0, 0, 0, 0, 0, 0, 0, 0, 0, 2, 0, 0, 0, 3, 0, 0, 0, 0, 0, 0, 1, 0, 1, 2, 0, 0, 3, 0, 3, 2, 0, 0, 0, 0, 0, 1, 2, 0, 0, 3, 2, 0, 0, 0, 0, 0, 0, 0, 1, 2, 2, 0, 0, 0, 0, 0, 0, 1, 2, 2, 0, 0]) (rk := [0, 1, 2, 3, 4, 5, 6, 7, 8, 9, 10, 11, 12, 13, 14, 15, 16, 17, 18, 19, 20, 21, 22, 23, 24, 25, 26, 27, 28, 29, 30, 31, 32, 33, 34, 35, 36, 37, 38, 39, 40, 41, 42, 43, 44, 45, 46, 47, 48, 49, 50, 51, 52, 53, 54, 55, 56, 57, 58, 59, 60, 61, 62, 63, 64]) rfl (by kernel_rfl) ?_
  refine xf 107 [10] rfl (ok_move · (.tmp rfl)) ?_
  refine xf 108 [107] rfl (ok_not · (.tmp rfl)) ?_
  refine xf 109 [108] rfl (ok_move · (.tmp rfl)) ?_
  rcases ifc h with ⟨hc36, h⟩ | ⟨hc36, h⟩
  · refine xfs 110 109 [12, 109] rfl hc36 ?_
    try dsimp only [w0, w1, w2, w3]
    refine xfs 111 109 [110, 109] rfl hc36 ?_
    refine xf 112 [109, 111] rfl (ok_pick_tt · (.tmp rfl) hc36 (.bool _)) ?_
    refine xf 113 [112] rfl (ok_move · (.tmp rfl)) ?_
    refine xfs 114 113 [14, 113] rfl rfl ?_
    try dsimp only [w0, w1, w2, w3]
    refine xfs 115 113 [114, 113] rfl rfl ?_
    refine xf 116 [113, 115] rfl (ok_pick_tt · (.tmp rfl) rfl (.bool _)) ?_
    refine xf 117 [116] rfl (ok_move · (.tmp rfl)) ?_
    refine xfs 118 117 [5, 117] rfl rfl ?_
    try dsimp only [w0, w1, w2, w3]
    refine zes 119 117 [118, 117] rfl rfl trivial ?_
    refine xfs 120 117 [7, 117] rfl rfl ?_
    refine xfs 121 117 [120, 117] rfl rfl ?_
    refine xfs 122 117 [121, 117] rfl rfl ?_
    try dsimp only [w0, w1, w2, w3]
    refine x_late (r_skip (dst := some 123) (t := 117) (ts := [122, 117]) rfl (by kernel_rfl) rfl rfl rfl) rfl ⟨.inr (l_skip (dst := some 123) (t := 117) (ts := [122, 117]) rfl (by kernel_rfl) rfl rfl rfl), trivial⟩ ?_
    refine xfs 124 117 [123, 117] rfl rfl ?_
    refine xfs 125 117 [119, 124, 117] rfl rfl ?_
    refine xf 126 [117, 125] rfl (ok_pick_tt · (.tmp rfl) rfl (.bool _)) ?_
    try dsimp only [w0, w1, w2, w3]
    refine xf 127 [126] rfl (ok_move · (.tmp rfl)) ?_
    refine xfs 128 127 [5, 127] rfl rfl ?_
    refine xfs 129 127 [9, 127] rfl rfl ?_
    refine xrs 130 127 [129, 127] rfl rfl ?_
    try dsimp only [w0, w1, w2, w3]
    refine xfs 131 127 [9, 127] rfl rfl ?_
    refine xrs 132 127 [131, 127] rfl rfl ?_
    refine zes 133 127 [128, 130, 132, 127] rfl rfl ⟨.inl (by kernel_rfl), trivial⟩ ?_
    refine xfs 134 127 [7, 127] rfl rfl ?_
    try dsimp only [w0, w1, w2, w3]
    refine xfs 135 127 [9, 127] rfl rfl ?_
    refine x_late (r_skip (dst := some 136) (t := 127) (ts := [135, 127]) rfl (by kernel_rfl) rfl rfl rfl) rfl ⟨.inr (l_skip (dst := some 136) (t := 127) (ts := [135, 127]) rfl (by kernel_rfl) rfl rfl rfl), .inl (by kernel_rfl), trivial⟩ ?_
    refine xfs 137 127 [9, 127] rfl rfl ?_
    refine x_late (r_skip (dst := some 138) (t := 127) (ts := [137, 127]) rfl (by kernel_rfl) rfl rfl rfl) rfl ⟨.inr (l_skip (dst := some 138) (t := 127) (ts := [137, 127]) rfl (by kernel_rfl) rfl rfl rfl), .inl (by kernel_rfl), trivial⟩ ?_
    try dsimp only [w0, w1, w2, w3]
    refine zes 139 127 [134, 136, 138, 127] rfl rfl ⟨.inl (by kernel_rfl), .inl (by kernel_rfl), .inl (by kernel_rfl), trivial⟩ ?_
    refine xfs 140 127 [133, 139, 127] rfl rfl ?_
    refine xf 141 [127, 140] rfl (ok_pick_tt · (.tmp rfl) rfl (.bool _)) ?_
    refine xf 142 [141] rfl (ok_move · (.tmp rfl)) ?_
    try dsimp only [w0, w1, w2, w3]
    refine xfs 143 142 [5, 142] rfl rfl ?_
    refine xfs 144 142 [9, 142] rfl rfl ?_
    refine xrs 145 142 [144, 142] rfl rfl ?_
    refine zes 146 142 [143, 145, 142] rfl rfl ⟨.inl (by kernel_rfl), .inl (by kernel_rfl), .inl (by kernel_rfl), trivial⟩ ?_
    try dsimp only [w0, w1, w2, w3]
    refine xfs 147 142 [7, 142] rfl rfl ?_
    refine xfs 148 142 [9, 142] rfl rfl ?_
    refine x_late (r_skip (dst := some 149) (t := 142) (ts := [148, 142]) rfl (by kernel_rfl) rfl rfl rfl) rfl ⟨.inr (l_skip (dst := some 149) (t := 142) (ts := [148, 142]) rfl (by kernel_rfl) rfl rfl rfl), .inl (by kernel_rfl), .inl (by kernel_rfl), .inl (by kernel_rfl), trivial⟩ ?_
    refine zes 150 142 [147, 149, 142] rfl rfl ⟨.inl (by kernel_rfl), .inl (by kernel_rfl), .inl (by kernel_rfl), .inl (by kernel_rfl), trivial⟩ ?_
    try dsimp only [w0, w1, w2, w3]
    refine xfs 151 142 [150, 142] rfl rfl ?_
    refine xfs 152 142 [146, 151, 142] rfl rfl ?_
    refine xf 153 [142, 152] rfl (ok_pick_tt · (.tmp rfl) rfl (.bool _)) ?_
    refine xf 154 [153] rfl (ok_move · (.tmp rfl)) ?_
    try dsimp only [w0, w1, w2, w3]
    refine xfs 155 154 [11, 154] rfl rfl ?_
    refine xfs 156 154 [7, 154] rfl rfl ?_
    refine xfs 157 154 [9, 154] rfl rfl ?_
    refine xrs 158 154 [157, 154] rfl rfl ?_
    try dsimp only [w0, w1, w2, w3]
    refine zes 159 154 [156, 158, 154] rfl rfl ⟨.inl (by kernel_rfl), .inl (by kernel_rfl), .inl (by kernel_rfl), .inl (by kernel_rfl), trivial⟩ ?_
    refine zes 160 154 [155, 159, 154] rfl rfl ⟨.inl (by kernel_rfl), .inl (by kernel_rfl), .inl (by kernel_rfl), .inl (by kernel_rfl), trivial⟩ ?_
    refine xfs 161 154 [160, 154] rfl rfl ?_
    refine xf 162 [154, 161] rfl (ok_pick_tt · (.tmp rfl) rfl (.bool _)) ?_
    try dsimp only [w0, w1, w2, w3]
    refine xf 163 [162] rfl (ok_move · (.tmp rfl)) ?_
    refine xfs 164 163 [13, 163] rfl rfl ?_
    refine xfs 165 163 [7, 163] rfl rfl ?_
    refine xfs 166 163 [9, 163] rfl rfl ?_
    try dsimp only [w0, w1, w2, w3]
    refine xrs 167 163 [166, 163] rfl rfl ?_
    refine zes 168 163 [165, 167, 163] rfl rfl ⟨.inl (by kernel_rfl), .inl (by kernel_rfl), .inl (by kernel_rfl), .inl (by kernel_rfl), trivial⟩ ?_
    refine zes 169 163 [164, 168, 163] rfl rfl ⟨.inl (by kernel_rfl), .inl (by kernel_rfl), .inl (by kernel_rfl), .inl (by kernel_rfl), trivial⟩ ?_
    refine xfs 170 163 [169, 163] rfl rfl ?_
    try dsimp only [w0, w1, w2, w3]
    refine xf 171 [163, 170] rfl (ok_pick_tt · (.tmp rfl) rfl (.bool _)) ?_
    refine x_rest rfl ?_
    refine hr_region_end ?_
    try dsimp only [w0, w1, w2, w3]
    try dsimp only [w0, w1, w2, w3]
    exact J4_snd hD hH hrec0 h
  · refine xfg 110 109 [12, 109] rfl (bfalse hc36) (ok_move · (.tmp rfl)) ?_
    try dsimp only [w0, w1, w2, w3]
    refine xfg 111 109 [110, 109] rfl (bfalse hc36) (ok_not · (.tmp rfl)) ?_
    refine xf 112 [109, 111] rfl (ok_pick_ff · (.tmp rfl) (bfalse hc36) (.tmp rfl)) ?_
    refine xf 113 [112] rfl (ok_move · (.tmp rfl)) ?_
    rcases ifc h with ⟨hc38, h⟩ | ⟨hc38, h⟩
    · refine xfs 114 113 [14, 113] rfl hc38 ?_
      try dsimp only [w0, w1, w2, w3]
      refine xfs 115 113 [114, 113] rfl hc38 ?_
      refine xf 116 [113, 115] rfl (ok_pick_tt · (.tmp rfl) hc38 (.bool _)) ?_
      refine xf 117 [116] rfl (ok_move · (.tmp rfl)) ?_
      refine xfs 118 117 [5, 117] rfl rfl ?_
      try dsimp only [w0, w1, w2, w3]
      refine zes 119 117 [118, 117] rfl rfl trivial ?_
      refine xfs 120 117 [7, 117] rfl rfl ?_
      refine xfs 121 117 [120, 117] rfl rfl ?_
      refine xfs 122 117 [121, 117] rfl rfl ?_
      try dsimp only [w0, w1, w2, w3]
      refine x_late (r_skip (dst := some 123) (t := 117) (ts := [122, 117]) rfl (by kernel_rfl) rfl rfl rfl) rfl ⟨.inr (l_skip (dst := some 123) (t := 117) (ts := [122, 117]) rfl (by kernel_rfl) rfl rfl rfl), trivial⟩ ?_
      refine xfs 124 117 [123, 117] rfl rfl ?_
      refine xfs 125 117 [119, 124, 117] rfl rfl ?_
      refine xf 126 [117, 125] rfl (ok_pick_tt · (.tmp rfl) rfl (.bool _)) ?_
      try dsimp only [w0, w1, w2, w3]
      refine xf 127 [126] rfl (ok_move · (.tmp rfl)) ?_
      refine xfs 128 127 [5, 127] rfl rfl ?_
      refine xfs 129 127 [9, 127] rfl rfl ?_
      refine xrs 130 127 [129, 127] rfl rfl ?_
      try dsimp only [w0, w1, w2, w3]
      refine xfs 131 127 [9, 127] rfl rfl ?_
      refine xrs 132 127 [131, 127] rfl rfl ?_
      refine zes 133 127 [128, 130, 132, 127] rfl rfl ⟨.inl (by kernel_rfl), trivial⟩ ?_
      refine xfs 134 127 [7, 127] rfl rfl ?_
      try dsimp only [w0, w1, w2, w3]
      refine xfs 135 127 [9, 127] rfl rfl ?_
      refine x_late (r_skip (dst := some 136) (t := 127) (ts := [135, 127]) rfl (by kernel_rfl) rfl rfl rfl) rfl ⟨.inr (l_skip (dst := some 136) (t := 127) (ts := [135, 127]) rfl (by kernel_rfl) rfl rfl rfl), .inl (by kernel_rfl), trivial⟩ ?_
      refine xfs 137 127 [9, 127] rfl rfl ?_
      refine x_late (r_skip (dst := some 138) (t := 127) (ts := [137, 127]) rfl (by kernel_rfl) rfl rfl rfl) rfl ⟨.inr (l_skip (dst := some 138) (t := 127) (ts := [137, 127]) rfl (by kernel_rfl) rfl rfl rfl), .inl (by kernel_rfl), trivial⟩ ?_
      try dsimp only [w0, w1, w2, w3]
      refine zes 139 127 [134, 136, 138, 127] rfl rfl ⟨.inl (by kernel_rfl), .inl (by kernel_rfl), .inl (by kernel_rfl), trivial⟩ ?_
      refine xfs 140 127 [133, 139, 127] rfl rfl ?_
      refine xf 141 [127, 140] rfl (ok_pick_tt · (.tmp rfl) rfl (.bool _)) ?_
      refine xf 142 [141] rfl (ok_move · (.tmp rfl)) ?_
      try dsimp only [w0, w1, w2, w3]
      refine xfs 143 142 [5, 142] rfl rfl ?_
      refine xfs 144 142 [9, 142] rfl rfl ?_
      refine xrs 145 142 [144, 142] rfl rfl ?_
      refine zes 146 142 [143, 145, 142] rfl rfl ⟨.inl (by kernel_rfl), .inl (by kernel_rfl), .inl (by kernel_rfl), trivial⟩ ?_
      try dsimp only [w0, w1, w2, w3]
      refine xfs 147 142 [7, 142] rfl rfl ?_
      refine xfs 148 142 [9, 142] rfl rfl ?_
      refine x_late (r_skip (dst := some 149) (t := 142) (ts := [148, 142]) rfl (by kernel_rfl) rfl rfl rfl) rfl ⟨.inr (l_skip (dst := some 149) (t := 142) (ts := [148, 142]) rfl (by kernel_rfl) rfl rfl rfl), .inl (by kernel_rfl), .inl (by kernel_rfl), .inl (by kernel_rfl), trivial⟩ ?_
      refine zes 150 142 [147, 149, 142] rfl rfl ⟨.inl (by kernel_rfl), .inl (by kernel_rfl), .inl (by kernel_rfl), .inl (by kernel_rfl), trivial⟩ ?_
      try dsimp only [w0, w1, w2, w3]
      refine xfs 151 142 [150, 142] rfl rfl ?_
      refine xfs 152 142 [146, 151, 142] rfl rfl ?_
      refine xf 153 [142, 152] rfl (ok_pick_tt · (.tmp rfl) rfl (.bool _)) ?_
      refine xf 154 [153] rfl (ok_move · (.tmp rfl)) ?_
      try dsimp only [w0, w1, w2, w3]
      refine xfs 155 154 [11, 154] rfl rfl ?_
      refine xfs 156 154 [7, 154] rfl rfl ?_
      refine xfs 157 154 [9, 154] rfl rfl ?_
      refine xrs 158 154 [157, 154] rfl rfl ?_
      try dsimp only [w0, w1, w2, w3]
      refine zes 159 154 [156, 158, 154] rfl rfl ⟨.inl (by kernel_rfl), .inl (by kernel_rfl), .inl (by kernel_rfl), .inl (by kernel_rfl), trivial⟩ ?_
      refine zes 160 154 [155, 159, 154] rfl rfl ⟨.inl (by kernel_rfl), .inl (by kernel_rfl), .inl (by kernel_rfl), .inl (by kernel_rfl), trivial⟩ ?_
      refine xfs 161 154 [160, 154] rfl rfl ?_
      refine xf 162 [154, 161] rfl (ok_pick_tt · (.tmp rfl) rfl (.bool _)) ?_
      try dsimp only [w0, w1, w2, w3]
      refine xf 163 [162] rfl (ok_move · (.tmp rfl)) ?_
      refine xfs 164 163 [13, 163] rfl rfl ?_
      refine xfs 165 163 [7, 163] rfl rfl ?_
      refine xfs 166 163 [9, 163] rfl rfl ?_
      try dsimp only [w0, w1, w2, w3]
      refine xrs 167 163 [166, 163] rfl rfl ?_
      refine zes 168 163 [165, 167, 163] rfl rfl ⟨.inl (by kernel_rfl), .inl (by kernel_rfl), .inl (by kernel_rfl), .inl (by kernel_rfl), trivial⟩ ?_
      refine zes 169 163 [164, 168, 163] rfl rfl ⟨.inl (by kernel_rfl), .inl (by kernel_rfl), .inl (by kernel_rfl), .inl (by kernel_rfl), trivial⟩ ?_
      refine xfs 170 163 [169, 163] rfl rfl ?_
      try dsimp only [w0, w1, w2, w3]
      refine xf 171 [163, 170] rfl (ok_pick_tt · (.tmp rfl) rfl (.bool _)) ?_
      refine x_rest rfl ?_
      refine hr_region_end ?_
      try dsimp only [w0, w1, w2, w3]
      try dsimp only [w0, w1, w2, w3]
      exact J4_snd hD hH hrec0 h
    · refine xfg 114 113 [14, 113] rfl (bfalse hc38) (ok_move · (.tmp rfl)) ?_
      try dsimp only [w0, w1, w2, w3]
      refine xfg 115 113 [114, 113] rfl (bfalse hc38) (ok_not · (.tmp rfl)) ?_
      refine xf 116 [113, 115] rfl (ok_pick_ff · (.tmp rfl) (bfalse hc38) (.tmp rfl)) ?_
      refine xf 117 [116] rfl (ok_move · (.tmp rfl)) ?_
      rcases ifc h with ⟨hc39, h⟩ | ⟨hc39, h⟩
      · refine xfs 118 117 [5, 117] rfl hc39 ?_
        try dsimp only [w0, w1, w2, w3]
        refine zes 119 117 [118, 117] rfl hc39 trivial ?_
        refine xfs 120 117 [7, 117] rfl hc39 ?_
        refine xfs 121 117 [120, 117] rfl hc39 ?_
        refine xfs 122 117 [121, 117] rfl hc39 ?_
        try dsimp only [w0, w1, w2, w3]
        refine x_late (r_skip (dst := some 123) (t := 117) (ts := [122, 117]) rfl (by kernel_rfl) rfl rfl hc39) rfl ⟨.inr (l_skip (dst := some 123) (t := 117) (ts := [122, 117]) rfl (by kernel_rfl) rfl rfl hc39), trivial⟩ ?_
        refine xfs 124 117 [123, 117] rfl hc39 ?_
        refine xfs 125 117 [119, 124, 117] rfl hc39 ?_
        refine xf 126 [117, 125] rfl (ok_pick_tt · (.tmp rfl) hc39 (.bool _)) ?_
        try dsimp only [w0, w1, w2, w3]
        refine xf 127 [126] rfl (ok_move · (.tmp rfl)) ?_
        refine xfs 128 127 [5, 127] rfl rfl ?_
        refine xfs 129 127 [9, 127] rfl rfl ?_
        refine xrs 130 127 [129, 127] rfl rfl ?_
        try dsimp only [w0, w1, w2, w3]
        refine xfs 131 127 [9, 127] rfl rfl ?_
        refine xrs 132 127 [131, 127] rfl rfl ?_
        refine zes 133 127 [128, 130, 132, 127] rfl rfl ⟨.inl (by kernel_rfl), trivial⟩ ?_
        refine xfs 134 127 [7, 127] rfl rfl ?_
        try dsimp only [w0, w1, w2, w3]
        refine xfs 135 127 [9, 127] rfl rfl ?_
        refine x_late (r_skip (dst := some 136) (t := 127) (ts := [135, 127]) rfl (by kernel_rfl) rfl rfl rfl) rfl ⟨.inr (l_skip (dst := some 136) (t := 127) (ts := [135, 127]) rfl (by kernel_rfl) rfl rfl rfl), .inl (by kernel_rfl), trivial⟩ ?_
        refine xfs 137 127 [9, 127] rfl rfl ?_
        refine x_late (r_skip (dst := some 138) (t := 127) (ts := [137, 127]) rfl (by kernel_rfl) rfl rfl rfl) rfl ⟨.inr (l_skip (dst := some 138) (t := 127) (ts := [137, 127]) rfl (by kernel_rfl) rfl rfl rfl), .inl (by kernel_rfl), trivial⟩ ?_
        try dsimp only [w0, w1, w2, w3]
        refine zes 139 127 [134, 136, 138, 127] rfl rfl ⟨.inl (by kernel_rfl), .inl (by kernel_rfl), .inl (by kernel_rfl), trivial⟩ ?_
        refine xfs 140 127 [133, 139, 127] rfl rfl ?_
        refine xf 141 [127, 140] rfl (ok_pick_tt · (.tmp rfl) rfl (.bool _)) ?_
        refine xf 142 [141] rfl (ok_move · (.tmp rfl)) ?_
        try dsimp only [w0, w1, w2, w3]
        refine xfs 143 142 [5, 142] rfl rfl ?_
        refine xfs 144 142 [9, 142] rfl rfl ?_
        refine xrs 145 142 [144, 142] rfl rfl ?_
        refine zes 146 142 [143, 145, 142] rfl rfl ⟨.inl (by kernel_rfl), .inl (by kernel_rfl), .inl (by kernel_rfl), trivial⟩ ?_
        try dsimp only [w0, w1, w2, w3]
        refine xfs 147 142 [7, 142] rfl rfl ?_
        refine xfs 148 142 [9, 142] rfl rfl ?_
        refine x_late (r_skip (dst := some 149) (t := 142) (ts := [148, 142]) rfl (by kernel_rfl) rfl rfl rfl) rfl ⟨.inr (l_skip (dst := some 149) (t := 142) (ts := [148, 142]) rfl (by kernel_rfl) rfl rfl rfl), .inl (by kernel_rfl), .inl (by kernel_rfl), .inl (by kernel_rfl), trivial⟩ ?_
        refine zes 150 142 [147, 149, 142] rfl rfl ⟨.inl (by kernel_rfl), .inl (by kernel_rfl), .inl (by kernel_rfl), .inl (by kernel_rfl), trivial⟩ ?_
        try dsimp only [w0, w1, w2, w3]
        refine xfs 151 142 [150, 142] rfl rfl ?_
        refine xfs 152 142 [146, 151, 142] rfl rfl ?_
        refine xf 153 [142, 152] rfl (ok_pick_tt · (.tmp rfl) rfl (.bool _)) ?_
        refine xf 154 [153] rfl (ok_move · (.tmp rfl)) ?_
        try dsimp only [w0, w1, w2, w3]
        refine xfs 155 154 [11, 154] rfl rfl ?_
        refine xfs 156 154 [7, 154] rfl rfl ?_
        refine xfs 157 154 [9, 154] rfl rfl ?_
        refine xrs 158 154 [157, 154] rfl rfl ?_
        try dsimp only [w0, w1, w2, w3]
        refine zes 159 154 [156, 158, 154] rfl rfl ⟨.inl (by kernel_rfl), .inl (by kernel_rfl), .inl (by kernel_rfl), .inl (by kernel_rfl), trivial⟩ ?_
        refine zes 160 154 [155, 159, 154] rfl rfl ⟨.inl (by kernel_rfl), .inl (by kernel_rfl), .inl (by kernel_rfl), .inl (by kernel_rfl), trivial⟩ ?_
        refine xfs 161 154 [160, 154] rfl rfl ?_
        refine xf 162 [154, 161] rfl (ok_pick_tt · (.tmp rfl) rfl (.bool _)) ?_
        try dsimp only [w0, w1, w2, w3]
        refine xf 163 [162] rfl (ok_move · (.tmp rfl)) ?_
        refine xfs 164 163 [13, 163] rfl rfl ?_
        refine xfs 165 163 [7, 163] rfl rfl ?_
        refine xfs 166 163 [9, 163] rfl rfl ?_
        try dsimp only [w0, w1, w2, w3]
        refine xrs 167 163 [166, 163] rfl rfl ?_
        refine zes 168 163 [165, 167, 163] rfl rfl ⟨.inl (by kernel_rfl), .inl (by kernel_rfl), .inl (by kernel_rfl), .inl (by kernel_rfl), trivial⟩ ?_
        refine zes 169 163 [164, 168, 163] rfl rfl ⟨.inl (by kernel_rfl), .inl (by kernel_rfl), .inl (by kernel_rfl), .inl (by kernel_rfl), trivial⟩ ?_
        refine xfs 170 163 [169, 163] rfl rfl ?_
        try dsimp only [w0, w1, w2, w3]
        refine xf 171 [163, 170] rfl (ok_pick_tt · (.tmp rfl) rfl (.bool _)) ?_
        refine x_rest rfl ?_
        refine hr_region_end ?_
        try dsimp only [w0, w1, w2, w3]
        try dsimp only [w0, w1, w2, w3]
        exact J4_snd hD hH hrec0 h
      · refine xfg 118 117 [5, 117] rfl (bfalse hc39) (ok_move · (.tmp rfl)) ?_
        try dsimp only [w0, w1, w2, w3]
        obtain ⟨p40, hp40, h⟩ := bindo h
        refine x_goE (e_call_g (dst := some 119) (t := 117) (ts := [118, 117]) rfl (by kernel_rfl) rfl rfl (bfalse hc39) (.func _) (.cons (.tmp rfl) Evs.nil) (HInv.static pair_Rel_int_string_Len.at_ pair_Rel_int_string_Len.body (pair_Rel_int_string_Len.snd  hp40))) rfl trivial ?_
        refine xfg 120 117 [7, 117] rfl (bfalse hc39) (ok_move · (.tmp rfl)) ?_
        obtain ⟨p41, hp41, h⟩ := bindo h
        refine xfg 121 117 [120, 117] rfl (bfalse hc39) (ok_nilCheck_p · (.tmp rfl) hp41) ?_
        refine xfg 122 117 [121, 117] rfl (bfalse hc39) (ok_fieldAddr_s · fi32_1 (by decide) (.tmp rfl) rfl) ?_
        try dsimp only [w0, w1, w2, w3]
        obtain ⟨p42, hp42, h⟩ := bindo h
        obtain ⟨p43, hp43, h⟩ := bindo h
        obtain ⟨hg44, h⟩ := gd h
        refine x_late (r_op_g (dst := some 123) (t := 117) (ts := [122, 117]) rfl (by intro _ _ h; cases h) (by kernel_rfl) rfl rfl (bfalse hc39) (fun _ ho => ok_load_s ho sc30 (.tmp rfl) rfl (ldSl_out hp42))) rfl ⟨.inr (l_op_g (dst := some 123) (t := 117) (ts := [122, 117]) rfl (by intro _ _ h; cases h) (by kernel_rfl) rfl rfl (bfalse hc39) (fun _ ho => ok_load_s ho sc30 (.tmp rfl) rfl (ldSl_out (hp43.trans (congrArg some hg44))))), trivial⟩ ?_
        refine xfg 124 117 [123, 117] rfl (bfalse hc39) (ok_len_sl (q := Sl.a p42) (n := Sl.len p42) (z := Sl.cap p42) · rfl tu30 (.tmp rfl)) ?_
        refine xfg 125 117 [119, 124, 117] rfl (bfalse hc39) (ok_ibin · (.tmp rfl) (.tmp rfl) rfl) ?_
        refine xf 126 [117, 125] rfl (ok_pick_ff · (.tmp rfl) (bfalse hc39) (.tmp rfl)) ?_
        try dsimp only [w0, w1, w2, w3]
        refine xf 127 [126] rfl (ok_move · (.tmp rfl)) ?_
        rcases ifc h with ⟨hc45, h⟩ | ⟨hc45, h⟩
        · refine xfs 128 127 [5, 127] rfl hc45 ?_
          refine xfs 129 127 [9, 127] rfl hc45 ?_
          refine xrs 130 127 [129, 127] rfl hc45 ?_
          try dsimp only [w0, w1, w2, w3]
          refine xfs 131 127 [9, 127] rfl hc45 ?_
          refine xrs 132 127 [131, 127] rfl hc45 ?_
          refine zes 133 127 [128, 130, 132, 127] rfl hc45 ⟨.inl (by kernel_rfl), trivial⟩ ?_
          refine xfs 134 127 [7, 127] rfl hc45 ?_
          try dsimp only [w0, w1, w2, w3]
          refine xfs 135 127 [9, 127] rfl hc45 ?_
          refine x_late (r_skip (dst := some 136) (t := 127) (ts := [135, 127]) rfl (by kernel_rfl) rfl rfl hc45) rfl ⟨.inr (l_skip (dst := some 136) (t := 127) (ts := [135, 127]) rfl (by kernel_rfl) rfl rfl hc45), .inl (by kernel_rfl), trivial⟩ ?_
          refine xfs 137 127 [9, 127] rfl hc45 ?_
          refine x_late (r_skip (dst := some 138) (t := 127) (ts := [137, 127]) rfl (by kernel_rfl) rfl rfl hc45) rfl ⟨.inr (l_skip (dst := some 138) (t := 127) (ts := [137, 127]) rfl (by kernel_rfl) rfl rfl hc45), .inl (by kernel_rfl), trivial⟩ ?_
          try dsimp only [w0, w1, w2, w3]
          refine zes 139 127 [134, 136, 138, 127] rfl hc45 ⟨.inl (by kernel_rfl), .inl (by kernel_rfl), .inl (by kernel_rfl), trivial⟩ ?_
          refine xfs 140 127 [133, 139, 127] rfl hc45 ?_
          refine xf 141 [127, 140] rfl (ok_pick_tt · (.tmp rfl) hc45 (.bool _)) ?_
          refine xf 142 [141] rfl (ok_move · (.tmp rfl)) ?_
          try dsimp only [w0, w1, w2, w3]
          refine xfs 143 142 [5, 142] rfl rfl ?_
          refine xfs 144 142 [9, 142] rfl rfl ?_
          refine xrs 145 142 [144, 142] rfl rfl ?_
          refine zes 146 142 [143, 145, 142] rfl rfl ⟨.inl (by kernel_rfl), .inl (by kernel_rfl), .inl (by kernel_rfl), trivial⟩ ?_
          try dsimp only [w0, w1, w2, w3]
          refine xfs 147 142 [7, 142] rfl rfl ?_
          refine xfs 148 142 [9, 142] rfl rfl ?_
          refine x_late (r_skip (dst := some 149) (t := 142) (ts := [148, 142]) rfl (by kernel_rfl) rfl rfl rfl) rfl ⟨.inr (l_skip (dst := some 149) (t := 142) (ts := [148, 142]) rfl (by kernel_rfl) rfl rfl rfl), .inl (by kernel_rfl), .inl (by kernel_rfl), .inl (by kernel_rfl), trivial⟩ ?_
          refine zes 150 142 [147, 149, 142] rfl rfl ⟨.inl (by kernel_rfl), .inl (by kernel_rfl), .inl (by kernel_rfl), .inl (by kernel_rfl), trivial⟩ ?_
          try dsimp only [w0, w1, w2, w3]
          refine xfs 151 142 [150, 142] rfl rfl ?_
          refine xfs 152 142 [146, 151, 142] rfl rfl ?_
          refine xf 153 [142, 152] rfl (ok_pick_tt · (.tmp rfl) rfl (.bool _)) ?_
          refine xf 154 [153] rfl (ok_move · (.tmp rfl)) ?_
          try dsimp only [w0, w1, w2, w3]
          refine xfs 155 154 [11, 154] rfl rfl ?_
          refine xfs 156 154 [7, 154] rfl rfl ?_
          refine xfs 157 154 [9, 154] rfl rfl ?_
          refine xrs 158 154 [157, 154] rfl rfl ?_
          try dsimp only [w0, w1, w2, w3]
          refine zes 159 154 [156, 158, 154] rfl rfl ⟨.inl (by kernel_rfl), .inl (by kernel_rfl), .inl (by kernel_rfl), .inl (by kernel_rfl), trivial⟩ ?_
          refine zes 160 154 [155, 159, 154] rfl rfl ⟨.inl (by kernel_rfl), .inl (by kernel_rfl), .inl (by kernel_rfl), .inl (by kernel_rfl), trivial⟩ ?_
          refine xfs 161 154 [160, 154] rfl rfl ?_
          refine xf 162 [154, 161] rfl (ok_pick_tt · (.tmp rfl) rfl (.bool _)) ?_
          try dsimp only [w0, w1, w2, w3]
          refine xf 163 [162] rfl (ok_move · (.tmp rfl)) ?_
          refine xfs 164 163 [13, 163] rfl rfl ?_
          refine xfs 165 163 [7, 163] rfl rfl ?_
          refine xfs 166 163 [9, 163] rfl rfl ?_
          try dsimp only [w0, w1, w2, w3]
          refine xrs 167 163 [166, 163] rfl rfl ?_
          refine zes 168 163 [165, 167, 163] rfl rfl ⟨.inl (by kernel_rfl), .inl (by kernel_rfl), .inl (by kernel_rfl), .inl (by kernel_rfl), trivial⟩ ?_
          refine zes 169 163 [164, 168, 163] rfl rfl ⟨.inl (by kernel_rfl), .inl (by kernel_rfl), .inl (by kernel_rfl), .inl (by kernel_rfl), trivial⟩ ?_
          refine xfs 170 163 [169, 163] rfl rfl ?_
          try dsimp only [w0, w1, w2, w3]
          refine xf 171 [163, 170] rfl (ok_pick_tt · (.tmp rfl) rfl (.bool _)) ?_
          refine x_rest rfl ?_
          refine hr_region_end ?_
          try dsimp only [w0, w1, w2, w3]
          try dsimp only [w0, w1, w2, w3]
          exact J4_snd hD hH hrec0 h
        · refine xfg 128 127 [5, 127] rfl (bfalse hc45) (ok_move · (.tmp rfl)) ?_
          obtain ⟨p46, hp46, h⟩ := bindo h
          refine xfg 129 127 [9, 127] rfl (bfalse hc45) (ok_fieldAddr_s · fi34_1 (by decide) (.tmp rfl) hp46) ?_
          obtain ⟨p47, hp47, h⟩ := bindo h
          refine xrg 130 127 [129, 127] rfl (bfalse hc45) (ok_load_s · sc3 (.tmp rfl) rfl (ldI_out hp47)) ?_
          try dsimp only [w0, w1, w2, w3]
          obtain ⟨p48, hp48, h⟩ := bindo h
          refine xfg 131 127 [9, 127] rfl (bfalse hc45) (ok_fieldAddr_s · fi34_2 (by decide) (.tmp rfl) hp48) ?_
          obtain ⟨p49, hp49, h⟩ := bindo h
          refine xrg 132 127 [131, 127] rfl (bfalse hc45) (ok_load_s · sc9 (.tmp rfl) rfl (ldS_out hp49)) ?_
          obtain ⟨p50, hp50, h⟩ := bindo h
          refine x_goE (e_call_g (dst := some 133) (t := 127) (ts := [128, 130, 132, 127]) rfl (by kernel_rfl) rfl rfl (bfalse hc45) (.func _) (.cons (.tmp rfl) (.cons (.tmp rfl) (.cons (.tmp rfl) Evs.nil))) (HInv.static pair_Rel_int_string_Has.at_ pair_Rel_int_string_Has.body (pair_Rel_int_string_Has.snd  hp50))) rfl ⟨.inl (by kernel_rfl), trivial⟩ ?_
          refine xfg 134 127 [7, 127] rfl (bfalse hc45) (ok_move · (.tmp rfl)) ?_
          try dsimp only [w0, w1, w2, w3]
          obtain ⟨p51, hp51, h⟩ := bindo h
          refine xfg 135 127 [9, 127] rfl (bfalse hc45) (ok_fieldAddr_s · fi34_1 (by decide) (.tmp rfl) hp51) ?_
          obtain ⟨p52, hp52, h⟩ := bindo h
          obtain ⟨p53, hp53, h⟩ := bindo h
          obtain ⟨hg54, h⟩ := gd h
          refine x_late (r_op_g (dst := some 136) (t := 127) (ts := [135, 127]) rfl (by intro _ _ h; cases h) (by kernel_rfl) rfl rfl (bfalse hc45) (fun _ ho => ok_load_s ho sc3 (.tmp rfl) rfl (ldI_out hp52))) rfl ⟨.inr (l_op_g (dst := some 136) (t := 127) (ts := [135, 127]) rfl (by intro _ _ h; cases h) (by kernel_rfl) rfl rfl (bfalse hc45) (fun _ ho => ok_load_s ho sc3 (.tmp rfl) rfl (ldI_out (hp53.trans (congrArg some hg54))))), .inl (by kernel_rfl), trivial⟩ ?_
          obtain ⟨p55, hp55, h⟩ := bindo h
          refine xfg 137 127 [9, 127] rfl (bfalse hc45) (ok_fieldAddr_s · fi34_2 (by decide) (.tmp rfl) hp55) ?_
          obtain ⟨p56, hp56, h⟩ := bindo h
          obtain ⟨p57, hp57, h⟩ := bindo h
          obtain ⟨hg58, h⟩ := gd h
          refine x_late (r_op_g (dst := some 138) (t := 127) (ts := [137, 127]) rfl (by intro _ _ h; cases h) (by kernel_rfl) rfl rfl (bfalse hc45) (fun _ ho => ok_load_s ho sc9 (.tmp rfl) rfl (ldS_out hp56))) rfl ⟨.inr (l_op_g (dst := some 138) (t := 127) (ts := [137, 127]) rfl (by intro _ _ h; cases h) (by kernel_rfl) rfl rfl (bfalse hc45) (fun _ ho => ok_load_s ho sc9 (.tmp rfl) rfl (ldS_out (hp57.trans (congrArg some hg58))))), .inl (by kernel_rfl), trivial⟩ ?_
          try dsimp only [w0, w1, w2, w3]
          obtain ⟨p59, hp59, h⟩ := bindo h
          refine x_goE (e_call_g (dst := some 139) (t := 127) (ts := [134, 136, 138, 127]) rfl (by kernel_rfl) rfl rfl (bfalse hc45) (.func _) (.cons (.tmp rfl) (.cons (.tmp rfl) (.cons (.tmp rfl) Evs.nil))) (HInv.static rollcallref11_Rel_Has.at_ rollcallref11_Rel_Has.body (rollcallref11_Rel_Has.snd  hp59))) rfl ⟨.inl (by kernel_rfl), .inl (by kernel_rfl), .inl (by kernel_rfl), trivial⟩ ?_
          refine xfg 140 127 [133, 139, 127] rfl (bfalse hc45) (ok_beq · tu4 (.inr ⟨rfl, rfl⟩) (.tmp rfl) (.tmp rfl)) ?_
          refine xf 141 [127, 140] rfl (ok_pick_ff · (.tmp rfl) (bfalse hc45) (.tmp rfl)) ?_
          refine xf 142 [141] rfl (ok_move · (.tmp rfl)) ?_
          try dsimp only [w0, w1, w2, w3]
          rcases ifc h with ⟨hc60, h⟩ | ⟨hc60, h⟩
          · refine xfs 143 142 [5, 142] rfl hc60 ?_
            refine xfs 144 142 [9, 142] rfl hc60 ?_
            refine xrs 145 142 [144, 142] rfl hc60 ?_
            refine zes 146 142 [143, 145, 142] rfl hc60 ⟨.inl (by kernel_rfl), .inl (by kernel_rfl), .inl (by kernel_rfl), trivial⟩ ?_
            try dsimp only [w0, w1, w2, w3]
            refine xfs 147 142 [7, 142] rfl hc60 ?_
            refine xfs 148 142 [9, 142] rfl hc60 ?_
            refine x_late (r_skip (dst := some 149) (t := 142) (ts := [148, 142]) rfl (by kernel_rfl) rfl rfl hc60) rfl ⟨.inr (l_skip (dst := some 149) (t := 142) (ts := [148, 142]) rfl (by kernel_rfl) rfl rfl hc60), .inl (by kernel_rfl), .inl (by kernel_rfl), .inl (by kernel_rfl), trivial⟩ ?_
            refine zes 150 142 [147, 149, 142] rfl hc60 ⟨.inl (by kernel_rfl), .inl (by kernel_rfl), .inl (by kernel_rfl), .inl (by kernel_rfl), trivial⟩ ?_
            try dsimp only [w0, w1, w2, w3]
            refine xfs 151 142 [150, 142] rfl hc60 ?_
            refine xfs 152 142 [146, 151, 142] rfl hc60 ?_
            refine xf 153 [142, 152] rfl (ok_pick_tt · (.tmp rfl) hc60 (.bool _)) ?_
            refine xf 154 [153] rfl (ok_move · (.tmp rfl)) ?_
            try dsimp only [w0, w1, w2, w3]
            refine xfs 155 154 [11, 154] rfl rfl ?_
            refine xfs 156 154 [7, 154] rfl rfl ?_
            refine xfs 157 154 [9, 154] rfl rfl ?_
            refine xrs 158 154 [157, 154] rfl rfl ?_
            try dsimp only [w0, w1, w2, w3]
            refine zes 159 154 [156, 158, 154] rfl rfl ⟨.inl (by kernel_rfl), .inl (by kernel_rfl), .inl (by kernel_rfl), .inl (by kernel_rfl), trivial⟩ ?_
            refine zes 160 154 [155, 159, 154] rfl rfl ⟨.inl (by kernel_rfl), .inl (by kernel_rfl), .inl (by kernel_rfl), .inl (by kernel_rfl), trivial⟩ ?_
            refine xfs 161 154 [160, 154] rfl rfl ?_
            refine xf 162 [154, 161] rfl (ok_pick_tt · (.tmp rfl) rfl (.bool _)) ?_
            try dsimp only [w0, w1, w2, w3]
            refine xf 163 [162] rfl (ok_move · (.tmp rfl)) ?_
            refine xfs 164 163 [13, 163] rfl rfl ?_
            refine xfs 165 163 [7, 163] rfl rfl ?_
            refine xfs 166 163 [9, 163] rfl rfl ?_
            try dsimp only [w0, w1, w2, w3]
            refine xrs 167 163 [166, 163] rfl rfl ?_
            refine zes 168 163 [165, 167, 163] rfl rfl ⟨.inl (by kernel_rfl), .inl (by kernel_rfl), .inl (by kernel_rfl), .inl (by kernel_rfl), trivial⟩ ?_
            refine zes 169 163 [164, 168, 163] rfl rfl ⟨.inl (by kernel_rfl), .inl (by kernel_rfl), .inl (by kernel_rfl), .inl (by kernel_rfl), trivial⟩ ?_
            refine xfs 170 163 [169, 163] rfl rfl ?_
            try dsimp only [w0, w1, w2, w3]
            refine xf 171 [163, 170] rfl (ok_pick_tt · (.tmp rfl) rfl (.bool _)) ?_
            refine x_rest rfl ?_
            refine hr_region_end ?_
            try dsimp only [w0, w1, w2, w3]
            try dsimp only [w0, w1, w2, w3]
            exact J4_snd hD hH hrec0 h
          · refine xfg 143 142 [5, 142] rfl (bfalse hc60) (ok_move · (.tmp rfl)) ?_
            obtain ⟨p61, hp61, h⟩ := bindo h
            refine xfg 144 142 [9, 142] rfl (bfalse hc60) (ok_fieldAddr_s · fi34_1 (by decide) (.tmp rfl) hp61) ?_
            obtain ⟨p62, hp62, h⟩ := bindo h
            refine xrg 145 142 [144, 142] rfl (bfalse hc60) (ok_load_s · sc3 (.tmp rfl) rfl (ldI_out hp62)) ?_
            obtain ⟨p63, hp63, h⟩ := bindo h
            refine x_goE (e_call_g (dst := some 146) (t := 142) (ts := [143, 145, 142]) rfl (by kernel_rfl) rfl rfl (bfalse hc60) (.func _) (.cons (.tmp rfl) (.cons (.tmp rfl) Evs.nil)) (HInv.static pair_Rel_int_string_Count.at_ pair_Rel_int_string_Count.body (pair_Rel_int_string_Count.snd  hp63))) rfl ⟨.inl (by kernel_rfl), .inl (by kernel_rfl), .inl (by kernel_rfl), trivial⟩ ?_
            try dsimp only [w0, w1, w2, w3]
            refine xfg 147 142 [7, 142] rfl (bfalse hc60) (ok_move · (.tmp rfl)) ?_
            obtain ⟨p64, hp64, h⟩ := bindo h
            refine xfg 148 142 [9, 142] rfl (bfalse hc60) (ok_fieldAddr_s · fi34_1 (by decide) (.tmp rfl) hp64) ?_
            obtain ⟨p65, hp65, h⟩ := bindo h
            obtain ⟨p66, hp66, h⟩ := bindo h
            obtain ⟨hg67, h⟩ := gd h
            refine x_late (r_op_g (dst := some 149) (t := 142) (ts := [148, 142]) rfl (by intro _ _ h; cases h) (by kernel_rfl) rfl rfl (bfalse hc60) (fun _ ho => ok_load_s ho sc3 (.tmp rfl) rfl (ldI_out hp65))) rfl ⟨.inr (l_op_g (dst := some 149) (t := 142) (ts := [148, 142]) rfl (by intro _ _ h; cases h) (by kernel_rfl) rfl rfl (bfalse hc60) (fun _ ho => ok_load_s ho sc3 (.tmp rfl) rfl (ldI_out (hp66.trans (congrArg some hg67))))), .inl (by kernel_rfl), .inl (by kernel_rfl), .inl (by kernel_rfl), trivial⟩ ?_
            obtain ⟨p68, hp68, h⟩ := bindo h
            refine x_goE (e_call_g (dst := some 150) (t := 142) (ts := [147, 149, 142]) rfl (by kernel_rfl) rfl rfl (bfalse hc60) (.func _) (.cons (.tmp rfl) (.cons (.tmp rfl) Evs.nil)) (HInv.static rollcallref11_Rel_Of.at_ rollcallref11_Rel_Of.body (rollcallref11_Rel_Of.snd  hp68))) rfl ⟨.inl (by kernel_rfl), .inl (by kernel_rfl), .inl (by kernel_rfl), .inl (by kernel_rfl), trivial⟩ ?_
            try dsimp only [w0, w1, w2, w3]
            refine xfg 151 142 [150, 142] rfl (bfalse hc60) (ok_len_sl (q := Sl.a p68.1) (n := Sl.len p68.1) (z := Sl.cap p68.1) · rfl tu40 (.tmp rfl)) ?_
            refine xfg 152 142 [146, 151, 142] rfl (bfalse hc60) (ok_ibin · (.tmp rfl) (.tmp rfl) rfl) ?_
            refine xf 153 [142, 152] rfl (ok_pick_ff · (.tmp rfl) (bfalse hc60) (.tmp rfl)) ?_
            refine xf 154 [153] rfl (ok_move · (.tmp rfl)) ?_
            try dsimp only [w0, w1, w2, w3]
            rcases ifc h with ⟨hc69, h⟩ | ⟨hc69, h⟩
            · refine xfs 155 154 [11, 154] rfl hc69 ?_
              refine xfs 156 154 [7, 154] rfl hc69 ?_
              refine xfs 157 154 [9, 154] rfl hc69 ?_
              refine xrs 158 154 [157, 154] rfl hc69 ?_
              try dsimp only [w0, w1, w2, w3]
              refine zes 159 154 [156, 158, 154] rfl hc69 ⟨.inl (by kernel_rfl), .inl (by kernel_rfl), .inl (by kernel_rfl), .inl (by kernel_rfl), trivial⟩ ?_
              refine zes 160 154 [155, 159, 154] rfl hc69 ⟨.inl (by kernel_rfl), .inl (by kernel_rfl), .inl (by kernel_rfl), .inl (by kernel_rfl), trivial⟩ ?_
              refine xfs 161 154 [160, 154] rfl hc69 ?_
              refine xf 162 [154, 161] rfl (ok_pick_tt · (.tmp rfl) hc69 (.bool _)) ?_
              try dsimp only [w0, w1, w2, w3]
              refine xf 163 [162] rfl (ok_move · (.tmp rfl)) ?_
              refine xfs 164 163 [13, 163] rfl rfl ?_
              refine xfs 165 163 [7, 163] rfl rfl ?_
              refine xfs 166 163 [9, 163] rfl rfl ?_
              try dsimp only [w0, w1, w2, w3]
              refine xrs 167 163 [166, 163] rfl rfl ?_
              refine zes 168 163 [165, 167, 163] rfl rfl ⟨.inl (by kernel_rfl), .inl (by kernel_rfl), .inl (by kernel_rfl), .inl (by kernel_rfl), trivial⟩ ?_
              refine zes 169 163 [164, 168, 163] rfl rfl ⟨.inl (by kernel_rfl), .inl (by kernel_rfl), .inl (by kernel_rfl), .inl (by kernel_rfl), trivial⟩ ?_
              refine xfs 170 163 [169, 163] rfl rfl ?_
              try dsimp only [w0, w1, w2, w3]
              refine xf 171 [163, 170] rfl (ok_pick_tt · (.tmp rfl) rfl (.bool _)) ?_
              refine x_rest rfl ?_
              refine hr_region_end ?_
              try dsimp only [w0, w1, w2, w3]
              try dsimp only [w0, w1, w2, w3]
              exact J4_snd hD hH hrec0 h
            · refine xfg 155 154 [11, 154] rfl (bfalse hc69) (ok_move · (.tmp rfl)) ?_
              refine xfg 156 154 [7, 154] rfl (bfalse hc69) (ok_move · (.tmp rfl)) ?_
              obtain ⟨p70, hp70, h⟩ := bindo h
              refine xfg 157 154 [9, 154] rfl (bfalse hc69) (ok_fieldAddr_s · fi34_1 (by decide) (.tmp rfl) hp70) ?_
              obtain ⟨p71, hp71, h⟩ := bindo h
              refine xrg 158 154 [157, 154] rfl (bfalse hc69) (ok_load_s · sc3 (.tmp rfl) rfl (ldI_out hp71)) ?_
              try dsimp only [w0, w1, w2, w3]
              obtain ⟨p72, hp72, h⟩ := bindo h
              refine x_goE (e_call_g (dst := some 159) (t := 154) (ts := [156, 158, 154]) rfl (by kernel_rfl) rfl rfl (bfalse hc69) (.func _) (.cons (.tmp rfl) (.cons (.tmp rfl) Evs.nil)) (HInv.static rollcallref11_Rel_Of.at_ rollcallref11_Rel_Of.body (rollcallref11_Rel_Of.snd  hp72))) rfl ⟨.inl (by kernel_rfl), .inl (by kernel_rfl), .inl (by kernel_rfl), .inl (by kernel_rfl), trivial⟩ ?_
              obtain ⟨p73, hp73, h⟩ := bindo h
              refine x_goE (e_call_g (dst := some 160) (t := 154) (ts := [155, 159, 154]) rfl (by kernel_rfl) rfl rfl (bfalse hc69) (.func _) (.cons (.tmp rfl) (.cons (.tmp rfl) Evs.nil)) (HInv.static rollcallref01_Texts.at_ rollcallref01_Texts.body (rollcallref01_Texts.snd  hp73))) rfl ⟨.inl (by kernel_rfl), .inl (by kernel_rfl), .inl (by kernel_rfl), .inl (by kernel_rfl), trivial⟩ ?_
              refine xfg 161 154 [160, 154] rfl (bfalse hc69) (ok_not · (.tmp rfl)) ?_
              refine xf 162 [154, 161] rfl (ok_pick_ff · (.tmp rfl) (bfalse hc69) (.tmp rfl)) ?_
              try dsimp only [w0, w1, w2, w3]
              refine xf 163 [162] rfl (ok_move · (.tmp rfl)) ?_
              rcases ifc h with ⟨hc74, h⟩ | ⟨hc74, h⟩
              · refine xfs 164 163 [13, 163] rfl hc74 ?_
                refine xfs 165 163 [7, 163] rfl hc74 ?_
                refine xfs 166 163 [9, 163] rfl hc74 ?_
                try dsimp only [w0, w1, w2, w3]
                refine xrs 167 163 [166, 163] rfl hc74 ?_
                refine zes 168 163 [165, 167, 163] rfl hc74 ⟨.inl (by kernel_rfl), .inl (by kernel_rfl), .inl (by kernel_rfl), .inl (by kernel_rfl), trivial⟩ ?_
                refine zes 169 163 [164, 168, 163] rfl hc74 ⟨.inl (by kernel_rfl), .inl (by kernel_rfl), .inl (by kernel_rfl), .inl (by kernel_rfl), trivial⟩ ?_
                refine xfs 170 163 [169, 163] rfl hc74 ?_
                try dsimp only [w0, w1, w2, w3]
                refine xf 171 [163, 170] rfl (ok_pick_tt · (.tmp rfl) hc74 (.bool _)) ?_
                refine x_rest rfl ?_
                refine hr_region_end ?_
                try dsimp only [w0, w1, w2, w3]
                try dsimp only [w0, w1, w2, w3]
                exact J4_snd hD hH hrec0 h
              · refine xfg 164 163 [13, 163] rfl (bfalse hc74) (ok_move · (.tmp rfl)) ?_
                refine xfg 165 163 [7, 163] rfl (bfalse hc74) (ok_move · (.tmp rfl)) ?_
                obtain ⟨p75, hp75, h⟩ := bindo h
                refine xfg 166 163 [9, 163] rfl (bfalse hc74) (ok_fieldAddr_s · fi34_2 (by decide) (.tmp rfl) hp75) ?_
                try dsimp only [w0, w1, w2, w3]
                obtain ⟨p76, hp76, h⟩ := bindo h
                refine xrg 167 163 [166, 163] rfl (bfalse hc74) (ok_load_s · sc9 (.tmp rfl) rfl (ldS_out hp76)) ?_
                obtain ⟨p77, hp77, h⟩ := bindo h
                refine x_goE (e_call_g (dst := some 168) (t := 163) (ts := [165, 167, 163]) rfl (by kernel_rfl) rfl rfl (bfalse hc74) (.func _) (.cons (.tmp rfl) (.cons (.tmp rfl) Evs.nil)) (HInv.static rollcallref11_Rel_By.at_ rollcallref11_Rel_By.body (rollcallref11_Rel_By.snd  hp77))) rfl ⟨.inl (by kernel_rfl), .inl (by kernel_rfl), .inl (by kernel_rfl), .inl (by kernel_rfl), trivial⟩ ?_
                obtain ⟨p78, hp78, h⟩ := bindo h
                refine x_goE (e_call_g (dst := some 169) (t := 163) (ts := [164, 168, 163]) rfl (by kernel_rfl) rfl rfl (bfalse hc74) (.func _) (.cons (.tmp rfl) (.cons (.tmp rfl) Evs.nil)) (HInv.static rollcallref10_Same.at_ rollcallref10_Same.body (rollcallref10_Same.snd  hp78))) rfl ⟨.inl (by kernel_rfl), .inl (by kernel_rfl), .inl (by kernel_rfl), .inl (by kernel_rfl), trivial⟩ ?_
                refine xfg 170 163 [169, 163] rfl (bfalse hc74) (ok_not · (.tmp rfl)) ?_
                try dsimp only [w0, w1, w2, w3]
                refine xf 171 [163, 170] rfl (ok_pick_ff · (.tmp rfl) (bfalse hc74) (.tmp rfl)) ?_
                refine x_rest rfl ?_
                refine hr_region_end ?_
                try dsimp only [w0, w1, w2, w3]
                try dsimp only [w0, w1, w2, w3]
                exact J4_snd hD hH hrec0 h
def L2 (D : Dp) (H : Hd) (k : Nat) : Nat → Sl → (Option HA) → (Option HA) → Int → HS → Option ((Bool) × HS)
  | 0, _, _, _, _, _ => none
  | n + 1, y1, y5, y7, y8, S =>
    (if y8 < (Sl.len y1 : Int) then
    (Option.bind (HS.idx S y1 y8 3) fun p12 =>
    (Option.bind (HS.ldI S .i64 (HA.fld p12 0)) fun p13 =>
    (Option.bind (HS.ldI S .i64 (HA.fld p12 1)) fun p14 =>
    (Option.bind (HS.ldS S (HA.fld p12 2)) fun p15 =>
    (letv (HS.new S (.cells 3 [[(.int .i64 0), (.int .i64 0), (.str [])]] true)) fun p16 =>
    (Option.bind (HS.sets p16 (HA.cell0 S.next) [(.int .i64 p13), (.int .i64 p14), (.str p15)]) fun p17 =>
    (Option.bind (HS.ldI p17 .i64 (HA.fld (HA.cell0 S.next) 0)) fun p18 =>
    (if p18 = 1 then
    (Option.bind (HS.ldI p17 .i64 (HA.fld (HA.cell0 S.next) 1)) fun p20 =>
    (Option.bind (HS.ldS p17 (HA.fld (HA.cell0 S.next) 2)) fun p21 =>
    (Option.bind (pair_Rel_int_string_Remove.f k y5 p20 p21 p17) fun p22 =>
    (Option.bind (HS.ldI p22.2 .i64 (HA.fld (HA.cell0 S.next) 1)) fun p23 =>
    (Option.bind (HS.ldI p17 .i64 (HA.fld (HA.cell0 S.next) 1)) fun p24 =>
    (if p24 = p23 then
    (Option.bind (HS.ldS p22.2 (HA.fld (HA.cell0 S.next) 2)) fun p26 =>
    (Option.bind (HS.ldS p17 (HA.fld (HA.cell0 S.next) 2)) fun p27 =>
    (if p27 = p26 then
    (Option.bind (rollcallref11_Rel_Keep.f k y7 p23 p26 false p22.2) fun p29 =>
    J3 D H k (L2 D H k n) y1 y5 y7 y8 (some (HA.cell0 S.next)) (p22.1 == (decide (p29.1 = 1))) p29.2) else none))) else none)))))) else
    (if p18 = 2 then
    (Option.bind (HS.ldI p17 .i64 (HA.fld (HA.cell0 S.next) 1)) fun p80 =>
    (Option.bind (pair_Rel_int_string_Drop.f D H k y5 p80 p17) fun p81 =>
    (Option.bind (HS.ldI p81.2 .i64 (HA.fld (HA.cell0 S.next) 1)) fun p82 =>
    (Option.bind (HS.ldI p17 .i64 (HA.fld (HA.cell0 S.next) 1)) fun p83 =>
    (if p83 = p82 then
    (Option.bind (rollcallref11_Rel_Keep.f k y7 p82 ([] : List UInt8) true p81.2) fun p85 =>
    J3 D H k (L2 D H k n) y1 y5 y7 y8 (some (HA.cell0 S.next)) (decide (p81.1 = p85.1)) p85.2) else none))))) else
    (Option.bind (HS.ldI p17 .i64 (HA.fld (HA.cell0 S.next) 1)) fun p86 =>
    (Option.bind (HS.ldS p17 (HA.fld (HA.cell0 S.next) 2)) fun p87 =>
    (Option.bind (pair_Rel_int_string_Add.f k y5 p86 p87 p17) fun p88 =>
    (Option.bind (HS.ldI p88.2 .i64 (HA.fld (HA.cell0 S.next) 1)) fun p89 =>
    (Option.bind (HS.ldI p17 .i64 (HA.fld (HA.cell0 S.next) 1)) fun p90 =>
    (if p90 = p89 then
    (Option.bind (HS.ldS p88.2 (HA.fld (HA.cell0 S.next) 2)) fun p92 =>
    (Option.bind (HS.ldS p17 (HA.fld (HA.cell0 S.next) 2)) fun p93 =>
    (if p93 = p92 then
    (Option.bind (rollcallref11_Rel_Add.f k y7 p89 p92 p88.2) fun p95 =>
    J3 D H k (L2 D H k n) y1 y5 y7 y8 (some (HA.cell0 S.next)) (decide (p88.1 = p95.1)) p95.2) else none))) else none))))))))))))))) else
    some (true, S))
theorem L2_snd {D : Dp} {H : Hd} {k : Nat} (hD : DSound Try.prog base W0 D) (hH : HSound Try.prog base W0 β0 H)  : ∀ {n : Nat} ⦃y1 : Sl⦄ ⦃y5 : (Option HA)⦄ ⦃y7 : (Option HA)⦄ ⦃y8 : Int⦄ ⦃S : HS⦄ ⦃p : (Bool) × HS⦄ ⦃g0 g2 g3 g4 g6 g9 g10 g11 g12 g13 g14 g15 g16 g17 g18 g19 g20 g21 g22 g23 g24 g25 g26 g27 g28 g29 g30 g31 g32 g33 g34 g35 g36 g37 g38 g39 g40 g41 g42 g43 g44 g45 g46 g47 g48 g49 g50 g51 g52 g53 g54 g55 g56 g57 g58 g59 g60 g61 g62 g63 g64 g65 g66 g67 g68 g69 g70 g71 g72 g73 g74 g75 g76 g77 g78 g79 g80 g81 g82 g83 g84 g85 g86 g87 g88 g89 g90 g91 g92 g93 g94 g95 g96 g97 g98 g99 g100 g101 g102 g103 g104 g105 g106 g107 g108 g109 g110 g111 g112 g113 g114 g115 g116 g117 g118 g119 g120 g121 g122 g123 g124 g125 g126 g127 g128 g129 g130 g131 g132 g133 g134 g135 g136 g137 g138 g139 g140 g141 g142 g143 g144 g145 g146 g147 g148 g149 g150 g151 g152 g153 g154 g155 g156 g157 g158 g159 g160 g161 g162 g163 g164 g165 g166 g167 g168 g169 g170 g171 : HV⦄, L2 D H k n y1 y5 y7 y8 S = some p → HRun Try.prog base W0 β0 3 none [.inLoop c43, .inBlock 0, .code c80] ⟨[g0, (Sl.hv y1), g2, g3, g4, (.ptr y5), g6, (.ptr y7), (.int .i64 y8), g9, g10, g11, g12, g13, g14, g15, g16, g17, g18, g19, g20, g21, g22, g23, g24, g25, g26, g27, g28, g29, g30, g31, g32, g33, g34, g35, g36, g37, g38, g39, g40, g41, g42, g43, g44, g45, g46, g47, g48, g49, g50, g51, g52, g53, g54, g55, g56, g57, g58, g59, g60, g61, g62, g63, g64, g65, g66, g67, g68, g69, g70, g71, g72, g73, g74, g75, g76, g77, g78, g79, g80, g81, g82, g83, g84, g85, g86, g87, g88, g89, g90, g91, g92, g93, g94, g95, g96, g97, g98, g99, g100, g101, g102, g103, g104, g105, g106, g107, g108, g109, g110, g111, g112, g113, g114, g115, g116, g117, g118, g119, g120, g121, g122, g123, g124, g125, g126, g127, g128, g129, g130, g131, g132, g133, g134, g135, g136, g137, g138, g139, g140, g141, g142, g143, g144, g145, g146, g147, g148, g149, g150, g151, g152, g153, g154, g155, g156, g157, g158, g159, g160, g161, g162, g163, g164, g165, g166, g167, g168, g169, g170, g171], []⟩ S (fun v S1 => v = (.bool p.1) ∧ S1 = p.2) := by
  intro n
  induction n with
  | zero => intro _ _ _ _ _ _ _ _ _ _ _ _ _ _ _ _ _ _ _ _ _ _ _ _ _ _ _ _ _ _ _ _ _ _ _ _ _ _ _ _ _ _ _ _ _ _ _ _ _ _ _ _ _ _ _ _ _ _ _ _ _ _ _ _ _ _ _ _ _ _ _ _ _ _ _ _ _ _ _ _ _ _ _ _ _ _ _ _ _ _ _ _ _ _ _ _ _ _ _ _ _ _ _ _ _ _ _ _ _ _ _ _ _ _ _ _ _ _ _ _ _ _ _ _ _ _ _ _ _ _ _ _ _ _ _ _ _ _ _ _ _ _ _ _ _ _ _ _ _ _ _ _ _ _ _ _ _ _ _ _ _ _ _ _ _ _ _ _ _ _ _ _ _ _ h; cases h
  | succ n ih =>
    intro y1 y5 y7 y8 S p g0 g2 g3 g4 g6 g9 g10 g11 g12 g13 g14 g15 g16 g17 g18 g19 g20 g21 g22 g23 g24 g25 g26 g27 g28 g29 g30 g31 g32 g33 g34 g35 g36 g37 g38 g39 g40 g41 g42 g43 g44 g45 g46 g47 g48 g49 g50 g51 g52 g53 g54 g55 g56 g57 g58 g59 g60 g61 g62 g63 g64 g65 g66 g67 g68 g69 g70 g71 g72 g73 g74 g75 g76 g77 g78 g79 g80 g81 g82 g83 g84 g85 g86 g87 g88 g89 g90 g91 g92 g93 g94 g95 g96 g97 g98 g99 g100 g101 g102 g103 g104 g105 g106 g107 g108 g109 g110 g111 g112 g113 g114 g115 g116 g117 g118 g119 g120 g121 g122 g123 g124 g125 g126 g127 g128 g129 g130 g131 g132 g133 g134 g135 g136 g137 g138 g139 g140 g141 g142 g143 g144 g145 g146 g147 g148 g149 g150 g151 g152 g153 g154 g155 g156 g157 g158 g159 g160 g161 g162 g163 g164 g165 g166 g167 g168 g169 g170 g171 h
    simp only [L2] at h
    refine hr_inLoop ?_
    refine q_seq rfl ?_
    refine q_seq rfl ?_
    refine q_region rfl rfl ?_
    refine qS 41 rfl (ok_move · (.tmp rfl)) ?_
    refine qS 42 rfl (ok_move · (.tmp rfl)) ?_
    refine qS 43 rfl (ok_len_sl (q := Sl.a y1) (n := Sl.len y1) (z := Sl.cap y1) · rfl tu22 (.tmp rfl)) ?_
    refine qS 44 rfl (ok_ibin · (.tmp rfl) (.tmp rfl) rfl) ?_
    refine hr_region_end ?_
    try dsimp only [w0, w1, w2, w3]
    rcases ifc h with ⟨hc11, h⟩ | ⟨hc11, h⟩
    · refine q_cond_t rfl (.tmp rfl) (decide_eq_true hc11) ?_
      refine q_skipc rfl ?_
      refine q_seq rfl ?_
      refine q_block rfl ?_
      refine q_seq rfl ?_
      refine q_region rfl rfl ?_
      refine qS 47 rfl (ok_move · (.tmp rfl)) ?_
      refine qS 48 rfl (ok_move · (.tmp rfl)) ?_
      obtain ⟨p12, hp12, h⟩ := bindo h
      refine qS 49 rfl (ok_indexAddr (s := y1) · tu22 sz34 (.tmp rfl) (.tmp rfl) hp12) ?_
      obtain ⟨p13, hp13, h⟩ := bindo h
      obtain ⟨p14, hp14, h⟩ := bindo h
      obtain ⟨p15, hp15, h⟩ := bindo h
      refine qS 50 rfl (ok_load_a (vs := [(.int .i64 p13), (.int .i64 p14), (.str p15)]) · ia34 (.tmp rfl) rfl ⟨ldI_out hp13, ldI_out hp14, ldS_out hp15, trivial⟩ (by simp)) ?_
      try dsimp only [w0, w1, w2, w3]
      obtain ⟨p16, hp16, h⟩ := leto h
      refine qS 9 rfl (ok_alloc_e · zi34 zr34 (by decide) rfl hp16) ?_
      obtain ⟨p17, hp17, h⟩ := bindo h
      refine qN rfl (ok_store_s (v := (.agg [(.int .i64 p13), (.int .i64 p14), (.str p15)])) · sz34 (.tmp rfl) rfl (.tmp rfl) rfl hp17) ?_
      refine hr_region_end ?_
      try dsimp only [w0, w1, w2, w3]
      refine q_seq rfl ?_
      refine q_region rfl rfl ?_
      refine qS 10 rfl (ok_assign · (.bool _)) ?_
      refine hr_region_end ?_
      try dsimp only [w0, w1, w2, w3]
      refine q_seq rfl ?_
      refine q_seq rfl ?_
      refine q_region rfl rfl ?_
      refine qS 51 rfl (ok_fieldAddr_s · fi34_0 (by decide) (.tmp rfl) rfl) ?_
      obtain ⟨p18, hp18, h⟩ := bindo h
      refine qS 52 rfl (ok_load_s · sc3 (.tmp rfl) rfl (ldI_out hp18)) ?_
      refine hr_region_end ?_
      try dsimp only [w0, w1, w2, w3]
      refine q_block rfl ?_
      refine q_seq rfl ?_
      refine q_region rfl rfl ?_
      refine qS 67 rfl (ok_ibin · (.tmp rfl) (.int _ _) rfl) ?_
      refine qS 66 rfl (ok_assign · (.tmp rfl)) ?_
      refine hr_region_end ?_
      try dsimp only [w0, w1, w2, w3]
      rcases ifc h with ⟨hc19, h⟩ | ⟨hc19, h⟩
      · refine q_cond_t rfl (.tmp rfl) (decide_eq_true hc19) ?_
        refine x_start (cls := [0, 0, 1, 0, 1, 2, 0, 0, 3, 0, 3, 2, 0, 0, 0]) (rk := [0, 1, 2, 3, 4, 5, 6, 7, 8, 9, 10, 11, 12, 13, 14]) rfl (by kernel_rfl) ?_
        refine xf 68 [5] rfl (ok_move · (.tmp rfl)) ?_
        refine xf 69 [9] rfl (ok_fieldAddr_s · fi34_1 (by decide) (.tmp rfl) rfl) ?_
        obtain ⟨p20, hp20, h⟩ := bindo h
        refine xr 70 [69] rfl (ok_load_s · sc3 (.tmp rfl) rfl (ldI_out hp20)) ?_
        refine xf 71 [9] rfl (ok_fieldAddr_s · fi34_2 (by decide) (.tmp rfl) rfl) ?_
        try dsimp only [w0, w1, w2, w3]
        obtain ⟨p21, hp21, h⟩ := bindo h
        refine xr 72 [71] rfl (ok_load_s · sc9 (.tmp rfl) rfl (ldS_out hp21)) ?_
        obtain ⟨p22, hp22, h⟩ := bindo h
        refine x_goE (e_call (dst := some 73) (ts := [68, 70, 72]) rfl (by kernel_rfl) (.func _) (.cons (.tmp rfl) (.cons (.tmp rfl) (.cons (.tmp rfl) Evs.nil))) (HInv.static pair_Rel_int_string_Remove.at_ pair_Rel_int_string_Remove.body (pair_Rel_int_string_Remove.snd  hp22))) rfl trivial ?_
        refine xf 74 [7] rfl (ok_move · (.tmp rfl)) ?_
        refine xf 75 [9] rfl (ok_fieldAddr_s · fi34_1 (by decide) (.tmp rfl) rfl) ?_
        try dsimp only [w0, w1, w2, w3]
        obtain ⟨p23, hp23, h⟩ := bindo h
        obtain ⟨p24, hp24, h⟩ := bindo h
        obtain ⟨hg25, h⟩ := gd h
        refine x_late (r_op (dst := some 76) (ts := [75]) rfl (by intro _ _ h; cases h) (by kernel_rfl) (fun _ ho => ok_load_s ho sc3 (.tmp rfl) rfl (ldI_out hp23))) rfl ⟨.inr (l_op (dst := some 76) (ts := [75]) rfl (by intro _ _ h; cases h) (by kernel_rfl) (fun _ ho => ok_load_s ho sc3 (.tmp rfl) rfl (ldI_out (hp24.trans (congrArg some hg25))))), trivial⟩ ?_
        refine xf 77 [9] rfl (ok_fieldAddr_s · fi34_2 (by decide) (.tmp rfl) rfl) ?_
        obtain ⟨p26, hp26, h⟩ := bindo h
        obtain ⟨p27, hp27, h⟩ := bindo h
        obtain ⟨hg28, h⟩ := gd h
        refine x_late (r_op (dst := some 78) (ts := [77]) rfl (by intro _ _ h; cases h) (by kernel_rfl) (fun _ ho => ok_load_s ho sc9 (.tmp rfl) rfl (ldS_out hp26))) rfl ⟨.inr (l_op (dst := some 78) (ts := [77]) rfl (by intro _ _ h; cases h) (by kernel_rfl) (fun _ ho => ok_load_s ho sc9 (.tmp rfl) rfl (ldS_out (hp27.trans (congrArg some hg28))))), trivial⟩ ?_
        obtain ⟨p29, hp29, h⟩ := bindo h
        refine x_goE (e_call (dst := some 79) (ts := [74, 76, 78]) rfl (by kernel_rfl) (.func _) (.cons (.tmp rfl) (.cons (.tmp rfl) (.cons (.tmp rfl) (.cons (.bool _) Evs.nil)))) (HInv.static rollcallref11_Rel_Keep.at_ rollcallref11_Rel_Keep.body (rollcallref11_Rel_Keep.snd  hp29))) rfl ⟨.inl (by kernel_rfl), .inl (by kernel_rfl), trivial⟩ ?_
        try dsimp only [w0, w1, w2, w3]
        refine xf 80 [79] rfl (ok_ibin · (.tmp rfl) (.int _ _) rfl) ?_
        refine xf 81 [73, 80] rfl (ok_beq · tu4 (.inl ⟨rfl, rfl⟩) (.tmp rfl) (.tmp rfl)) ?_
        refine xf 10 [81] rfl (ok_assign · (.tmp rfl)) ?_
        refine x_rest rfl ?_
        refine hr_region_end ?_
        try dsimp only [w0, w1, w2, w3]
        refine hr_inBlock ?_
        try dsimp only [w0, w1, w2, w3]
        exact J3_snd hD hH ih h
      · refine q_cond_f rfl (.tmp rfl) (decide_eq_false hc19) ?_
        refine q_seq rfl ?_
        refine q_region rfl rfl ?_
        refine qS 83 rfl (ok_ibin · (.tmp rfl) (.int _ _) rfl) ?_
        refine qS 82 rfl (ok_assign · (.tmp rfl)) ?_
        refine hr_region_end ?_
        try dsimp only [w0, w1, w2, w3]
        rcases ifc h with ⟨hc79, h⟩ | ⟨hc79, h⟩
        · refine q_cond_t rfl (.tmp rfl) (decide_eq_true hc79) ?_
          refine x_start (cls := [0, 0, 1, 2, 0, 0, 3, 2, 0, 0]) (rk := [0, 1, 2, 3, 4, 5, 6, 7, 8, 9]) rfl (by kernel_rfl) ?_
          refine xf 84 [5] rfl (ok_move · (.tmp rfl)) ?_
          refine xf 85 [9] rfl (ok_fieldAddr_s · fi34_1 (by decide) (.tmp rfl) rfl) ?_
          obtain ⟨p80, hp80, h⟩ := bindo h
          refine xr 86 [85] rfl (ok_load_s · sc3 (.tmp rfl) rfl (ldI_out hp80)) ?_
          obtain ⟨p81, hp81, h⟩ := bindo h
          refine x_goE (e_call (dst := some 87) (ts := [84, 86]) rfl (by kernel_rfl) (.func _) (.cons (.tmp rfl) (.cons (.tmp rfl) Evs.nil)) (HInv.static pair_Rel_int_string_Drop.at_ pair_Rel_int_string_Drop.body (pair_Rel_int_string_Drop.snd hD hH hp81))) rfl trivial ?_
          try dsimp only [w0, w1, w2, w3]
          refine xf 88 [7] rfl (ok_move · (.tmp rfl)) ?_
          refine xf 89 [9] rfl (ok_fieldAddr_s · fi34_1 (by decide) (.tmp rfl) rfl) ?_
          obtain ⟨p82, hp82, h⟩ := bindo h
          obtain ⟨p83, hp83, h⟩ := bindo h
          obtain ⟨hg84, h⟩ := gd h
          refine x_late (r_op (dst := some 90) (ts := [89]) rfl (by intro _ _ h; cases h) (by kernel_rfl) (fun _ ho => ok_load_s ho sc3 (.tmp rfl) rfl (ldI_out hp82))) rfl ⟨.inr (l_op (dst := some 90) (ts := [89]) rfl (by intro _ _ h; cases h) (by kernel_rfl) (fun _ ho => ok_load_s ho sc3 (.tmp rfl) rfl (ldI_out (hp83.trans (congrArg some hg84))))), trivial⟩ ?_
          obtain ⟨p85, hp85, h⟩ := bindo h
          refine x_goE (e_call (dst := some 91) (ts := [88, 90]) rfl (by kernel_rfl) (.func _) (.cons (.tmp rfl) (.cons (.tmp rfl) (.cons (.str _) (.cons (.bool _) Evs.nil)))) (HInv.static rollcallref11_Rel_Keep.at_ rollcallref11_Rel_Keep.body (rollcallref11_Rel_Keep.snd  hp85))) rfl ⟨.inl (by kernel_rfl), trivial⟩ ?_
          try dsimp only [w0, w1, w2, w3]
          refine xf 92 [87, 91] rfl (ok_ibin · (.tmp rfl) (.tmp rfl) rfl) ?_
          refine xf 10 [92] rfl (ok_assign · (.tmp rfl)) ?_
          refine x_rest rfl ?_
          refine hr_region_end ?_
          try dsimp only [w0, w1, w2, w3]
          refine hr_inBlock ?_
          try dsimp only [w0, w1, w2, w3]
          exact J3_snd hD hH ih h
        · refine q_cond_f rfl (.tmp rfl) (decide_eq_false hc79) ?_
          refine x_start (cls := [0, 0, 1, 0, 1, 2, 0, 0, 3, 0, 3, 2, 0, 0]) (rk := [0, 1, 2, 3, 4, 5, 6, 7, 8, 9, 10, 11, 12, 13]) rfl (by kernel_rfl) ?_
          refine xf 53 [5] rfl (ok_move · (.tmp rfl)) ?_
          refine xf 54 [9] rfl (ok_fieldAddr_s · fi34_1 (by decide) (.tmp rfl) rfl) ?_
          obtain ⟨p86, hp86, h⟩ := bindo h
          refine xr 55 [54] rfl (ok_load_s · sc3 (.tmp rfl) rfl (ldI_out hp86)) ?_
          refine xf 56 [9] rfl (ok_fieldAddr_s · fi34_2 (by decide) (.tmp rfl) rfl) ?_
          try dsimp only [w0, w1, w2, w3]
          obtain ⟨p87, hp87, h⟩ := bindo h
          refine xr 57 [56] rfl (ok_load_s · sc9 (.tmp rfl) rfl (ldS_out hp87)) ?_
          obtain ⟨p88, hp88, h⟩ := bindo h
          refine x_goE (e_call (dst := some 58) (ts := [53, 55, 57]) rfl (by kernel_rfl) (.func _) (.cons (.tmp rfl) (.cons (.tmp rfl) (.cons (.tmp rfl) Evs.nil))) (HInv.static pair_Rel_int_string_Add.at_ pair_Rel_int_string_Add.body (pair_Rel_int_string_Add.snd  hp88))) rfl trivial ?_
          refine xf 59 [7] rfl (ok_move · (.tmp rfl)) ?_
          refine xf 60 [9] rfl (ok_fieldAddr_s · fi34_1 (by decide) (.tmp rfl) rfl) ?_
          try dsimp only [w0, w1, w2, w3]
          obtain ⟨p89, hp89, h⟩ := bindo h
          obtain ⟨p90, hp90, h⟩ := bindo h
          obtain ⟨hg91, h⟩ := gd h
          refine x_late (r_op (dst := some 61) (ts := [60]) rfl (by intro _ _ h; cases h) (by kernel_rfl) (fun _ ho => ok_load_s ho sc3 (.tmp rfl) rfl (ldI_out hp89))) rfl ⟨.inr (l_op (dst := some 61) (ts := [60]) rfl (by intro _ _ h; cases h) (by kernel_rfl) (fun _ ho => ok_load_s ho sc3 (.tmp rfl) rfl (ldI_out (hp90.trans (congrArg some hg91))))), trivial⟩ ?_
          refine xf 62 [9] rfl (ok_fieldAddr_s · fi34_2 (by decide) (.tmp rfl) rfl) ?_
          obtain ⟨p92, hp92, h⟩ := bindo h
          obtain ⟨p93, hp93, h⟩ := bindo h
          obtain ⟨hg94, h⟩ := gd h
          refine x_late (r_op (dst := some 63) (ts := [62]) rfl (by intro _ _ h; cases h) (by kernel_rfl) (fun _ ho => ok_load_s ho sc9 (.tmp rfl) rfl (ldS_out hp92))) rfl ⟨.inr (l_op (dst := some 63) (ts := [62]) rfl (by intro _ _ h; cases h) (by kernel_rfl) (fun _ ho => ok_load_s ho sc9 (.tmp rfl) rfl (ldS_out (hp93.trans (congrArg some hg94))))), trivial⟩ ?_
          obtain ⟨p95, hp95, h⟩ := bindo h
          refine x_goE (e_call (dst := some 64) (ts := [59, 61, 63]) rfl (by kernel_rfl) (.func _) (.cons (.tmp rfl) (.cons (.tmp rfl) (.cons (.tmp rfl) Evs.nil))) (HInv.static rollcallref11_Rel_Add.at_ rollcallref11_Rel_Add.body (rollcallref11_Rel_Add.snd  hp95))) rfl ⟨.inl (by kernel_rfl), .inl (by kernel_rfl), trivial⟩ ?_
          try dsimp only [w0, w1, w2, w3]
          refine xf 65 [58, 64] rfl (ok_ibin · (.tmp rfl) (.tmp rfl) rfl) ?_
          refine xf 10 [65] rfl (ok_assign · (.tmp rfl)) ?_
          refine x_rest rfl ?_
          refine hr_region_end ?_
          try dsimp only [w0, w1, w2, w3]
          refine hr_inBlock ?_
          try dsimp only [w0, w1, w2, w3]
          exact J3_snd hD hH ih h
    · refine q_cond_f rfl (.tmp rfl) (decide_eq_false hc11) ?_
      refine q_exit rfl rfl ?_
      refine q_seq rfl ?_
      refine q_region rfl rfl ?_
      refine qS 4 rfl (ok_assign · (.bool _)) ?_
      refine hr_region_end ?_
      try dsimp only [w0, w1, w2, w3]
      cases h
      exact q_ret rfl at_.at_ rfl (res1 rfl rfl) ⟨rfl, rfl⟩
def J0 (D : Dp) (H : Hd) (k : Nat) (y0 : Int) (y1 : Sl) (y5 : (Option HA)) (y6 : Int) (y29 : Bool) (S : HS) : Option ((Bool) × HS) :=
  (if y29 = true then
  (if y6 = 2 then
  J1 D H k (Option.isNone y5) S else
  J1 D H k false S) else
  (if (!decide (y6 = 0)) = true then
  some (false, S) else
  (letv (HS.new S (.cells 2 [[(.int .i64 y0), (Sl.hv Sl.nil)]] true)) fun p10 =>
  L2 D H k k y1 y5 (some (HA.cell0 S.next)) 0 p10)))
theorem J0_snd {D : Dp} {H : Hd} {k : Nat} (hD : DSound Try.prog base W0 D) (hH : HSound Try.prog base W0 β0 H)  {y0 : Int} {y1 : Sl} {y5 : (Option HA)} {y6 : Int} {y29 : Bool} {S : HS} {p : (Bool) × HS} {g2 g3 g4 g7 g8 g9 g10 g11 g12 g13 g14 g15 g16 g17 g18 g19 g20 g21 g22 g23 g24 g25 g26 g27 g28 g30 g31 g32 g33 g34 g35 g36 g37 g38 g39 g40 g41 g42 g43 g44 g45 g46 g47 g48 g49 g50 g51 g52 g53 g54 g55 g56 g57 g58 g59 g60 g61 g62 g63 g64 g65 g66 g67 g68 g69 g70 g71 g72 g73 g74 g75 g76 g77 g78 g79 g80 g81 g82 g83 g84 g85 g86 g87 g88 g89 g90 g91 g92 g93 g94 g95 g96 g97 g98 g99 g100 g101 g102 g103 g104 g105 g106 g107 g108 g109 g110 g111 g112 g113 g114 g115 g116 g117 g118 g119 g120 g121 g122 g123 g124 g125 g126 g127 g128 g129 g130 g131 g132 g133 g134 g135 g136 g137 g138 g139 g140 g141 g142 g143 g144 g145 g146 g147 g148 g149 g150 g151 g152 g153 g154 g155 g156 g157 g158 g159 g160 g161 g162 g163 g164 g165 g166 g167 g168 g169 g170 g171 : HV} (h : J0 D H k y0 y1 y5 y6 y29 S = some p) : HRun Try.prog base W0 β0 3 none [.code c23, .code c28] ⟨[(.int .i64 y0), (Sl.hv y1), g2, g3, g4, (.ptr y5), (.int .i64 y6), g7, g8, g9, g10, g11, g12, g13, g14, g15, g16, g17, g18, g19, g20, g21, g22, g23, g24, g25, g26, g27, g28, (.bool y29), g30, g31, g32, g33, g34, g35, g36, g37, g38, g39, g40, g41, g42, g43, g44, g45, g46, g47, g48, g49, g50, g51, g52, g53, g54, g55, g56, g57, g58, g59, g60, g61, g62, g63, g64, g65, g66, g67, g68, g69, g70, g71, g72, g73, g74, g75, g76, g77, g78, g79, g80, g81, g82, g83, g84, g85, g86, g87, g88, g89, g90, g91, g92, g93, g94, g95, g96, g97, g98, g99, g100, g101, g102, g103, g104, g105, g106, g107, g108, g109, g110, g111, g112, g113, g114, g115, g116, g117, g118, g119, g120, g121, g122, g123, g124, g125, g126, g127, g128, g129, g130, g131, g132, g133, g134, g135, g136, g137, g138, g139, g140, g141, g142, g143, g144, g145, g146, g147, g148, g149, g150, g151, g152, g153, g154, g155, g156, g157, g158, g159, g160, g161, g162, g163, g164, g165, g166, g167, g168, g169, g170, g171], []⟩ S (fun v S1 => v = (.bool p.1) ∧ S1 = p.2) := by
  unfold J0 at h
  rcases ifc h with ⟨hc7, h⟩ | ⟨hc7, h⟩
  · refine q_cond_t rfl (.tmp rfl) hc7 ?_
    refine q_seq rfl ?_
    refine q_region rfl rfl ?_
    refine qS 30 rfl (ok_move · (.tmp rfl)) ?_
    refine qS 31 rfl (ok_ibin · (.tmp rfl) (.int _ _) rfl) ?_
    refine qS 32 rfl (ok_move · (.tmp rfl)) ?_
    rcases ifc h with ⟨hc8, h⟩ | ⟨hc8, h⟩
    · refine qG 32 33 rfl (decide_eq_true hc8) (ok_move · (.tmp rfl)) ?_
      try dsimp only [w0, w1, w2, w3]
      refine qG 32 34 rfl (decide_eq_true hc8) (ok_nil_ptr · tu25 (.tmp rfl) (.inl ⟨rfl, rfl⟩)) ?_
      refine qS 35 rfl (ok_pick_tt · (.tmp rfl) (decide_eq_true hc8) (.tmp rfl)) ?_
      try dsimp only [w0, w1, w2, w3]
      exact J1_snd hD hH h
    · refine q_skip (dst := some 33) (t := 32) rfl rfl rfl (decide_eq_false hc8) ?_
      try dsimp only [w0, w1, w2, w3]
      refine q_skip (dst := some 34) (t := 32) rfl rfl rfl (decide_eq_false hc8) ?_
      refine qS 35 rfl (ok_pick_ff · (.tmp rfl) (decide_eq_false hc8) (.bool _)) ?_
      try dsimp only [w0, w1, w2, w3]
      exact J1_snd hD hH h
  · refine q_cond_f rfl (.tmp rfl) (bfalse hc7) ?_
    refine q_skipc rfl ?_
    refine q_seq rfl ?_
    refine q_seq rfl ?_
    refine q_region rfl rfl ?_
    refine qS 36 rfl (ok_move · (.tmp rfl)) ?_
    refine qS 37 rfl (ok_ibin · (.tmp rfl) (.int _ _) rfl) ?_
    refine hr_region_end ?_
    try dsimp only [w0, w1, w2, w3]
    rcases ifc h with ⟨hc9, h⟩ | ⟨hc9, h⟩
    · refine q_cond_t rfl (.tmp rfl) hc9 ?_
      refine q_seq rfl ?_
      refine q_region rfl rfl ?_
      refine qS 4 rfl (ok_assign · (.bool _)) ?_
      refine hr_region_end ?_
      try dsimp only [w0, w1, w2, w3]
      cases h
      exact q_ret rfl at_.at_ rfl (res1 rfl rfl) ⟨rfl, rfl⟩
    · refine q_cond_f rfl (.tmp rfl) (bfalse hc9) ?_
      refine q_skipc rfl ?_
      refine q_seq rfl ?_
      refine q_region rfl rfl ?_
      refine qS 38 rfl (ok_move · (.tmp rfl)) ?_
      refine qS 39 rfl (ok_build (is := [0]) (xs := [(.tmp 38)]) (r := [(.int .i64 y0), (Sl.hv Sl.nil)]) st32 · rfl rfl (.cons (.tmp rfl) Evs.nil) rfl) ?_
      obtain ⟨p10, hp10, h⟩ := leto h
      refine qS 40 rfl (ok_box_e · (.tmp rfl) (Nat.zero_lt_succ _) rfl hp10) ?_
      refine qS 7 rfl (ok_assign · (.tmp rfl)) ?_
      refine hr_region_end ?_
      try dsimp only [w0, w1, w2, w3]
      refine q_seq rfl ?_
      refine q_seq rfl ?_
      refine q_region rfl rfl ?_
      refine qS 8 rfl (ok_assign · (.int _ _)) ?_
      refine hr_region_end ?_
      try dsimp only [w0, w1, w2, w3]
      refine q_block rfl ?_
      refine q_loop rfl ?_
      try dsimp only [w0, w1, w2, w3]
      exact L2_snd hD hH h
def f (D : Dp) (H : Hd) (k : Nat) (x0 : Int) (x1 : Sl) (S : HS) : Option ((Bool) × HS) :=
  (Option.bind (rollcalllaw11_awake.f D H k S) fun p1 =>
  (if (!p1.1) = true then
  some (false, p1.2) else
  (Option.bind (rollcalllaw11_great.f k x1 p1.2) fun p3 =>
  (if p3.1 = true then
  some (true, p3.2) else
  (Option.bind (pair_New_int_string.f x0 p3.2) fun p5 =>
  (if x0 < 0 then
  J0 D H k x0 x1 p5.1.1 p5.1.2 true p5.2 else
  J0 D H k x0 x1 p5.1.1 p5.1.2 (decide (x0 > 100000)) p5.2))))))
theorem snd {D : Dp} {H : Hd} {k : Nat} {x0 : Int} {x1 : Sl} {S : HS} (hD : DSound Try.prog base W0 D) (hH : HSound Try.prog base W0 β0 H)  {p : (Bool) × HS} (h : f D H k x0 x1 S = some p) : HCall Try.prog base W0 β0 3 [(.int .i64 x0), (Sl.hv x1)] S (fun v S1 => v = (.bool p.1) ∧ S1 = p.2) := by
  unfold f at h
  refine HCall.of_run at_.at_ body ?_
  show HRun Try.prog base W0 β0 3 none [.code c0] ⟨[(.int .i64 x0), (Sl.hv x1), τ, τ, τ, τ, τ, τ, τ, τ, τ, τ, τ, τ, τ, τ, τ, τ, τ, τ, τ, τ, τ, τ, τ, τ, τ, τ, τ, τ, τ, τ, τ, τ, τ, τ, τ, τ, τ, τ, τ, τ, τ, τ, τ, τ, τ, τ, τ, τ, τ, τ, τ, τ, τ, τ, τ, τ, τ, τ, τ, τ, τ, τ, τ, τ, τ, τ, τ, τ, τ, τ, τ, τ, τ, τ, τ, τ, τ, τ, τ, τ, τ, τ, τ, τ, τ, τ, τ, τ, τ, τ, τ, τ, τ, τ, τ, τ, τ, τ, τ, τ, τ, τ, τ, τ, τ, τ, τ, τ, τ, τ, τ, τ, τ, τ, τ, τ, τ, τ, τ, τ, τ, τ, τ, τ, τ, τ, τ, τ, τ, τ, τ, τ, τ, τ, τ, τ, τ, τ, τ, τ, τ, τ, τ, τ, τ, τ, τ, τ, τ, τ, τ, τ, τ, τ, τ, τ, τ, τ, τ, τ, τ, τ, τ, τ, τ, τ, τ, τ, τ, τ], []⟩ S _
  refine q_seq rfl ?_
  refine q_region rfl rfl ?_
  refine qS 4 rfl (ok_assign · (.bool _)) ?_
  refine hr_region_end ?_
  try dsimp only [w0, w1, w2, w3]
  refine q_seq rfl ?_
  refine q_seq rfl ?_
  refine q_region rfl rfl ?_
  obtain ⟨p1, hp1, h⟩ := bindo h
  refine q_call (dst := some 15) rfl (.func _) Evs.nil (HInv.static rollcalllaw11_awake.at_ rollcalllaw11_awake.body (rollcalllaw11_awake.snd hD hH hp1)) ?_
  rintro _ _ ⟨rfl, rfl⟩
  refine qS 16 rfl (ok_not · (.tmp rfl)) ?_
  refine hr_region_end ?_
  try dsimp only [w0, w1, w2, w3]
  rcases ifc h with ⟨hc2, h⟩ | ⟨hc2, h⟩
  · refine q_cond_t rfl (.tmp rfl) hc2 ?_
    refine q_seq rfl ?_
    refine q_region rfl rfl ?_
    refine qS 4 rfl (ok_assign · (.bool _)) ?_
    refine hr_region_end ?_
    try dsimp only [w0, w1, w2, w3]
    cases h
    exact q_ret rfl at_.at_ rfl (res1 rfl rfl) ⟨rfl, rfl⟩
  · refine q_cond_f rfl (.tmp rfl) (bfalse hc2) ?_
    refine q_skipc rfl ?_
    refine q_seq rfl ?_
    refine q_seq rfl ?_
    refine q_region rfl rfl ?_
    refine qS 17 rfl (ok_move · (.tmp rfl)) ?_
    obtain ⟨p3, hp3, h⟩ := bindo h
    refine q_call (dst := some 18) rfl (.func _) (.cons (.tmp rfl) Evs.nil) (HInv.static rollcalllaw11_great.at_ rollcalllaw11_great.body (rollcalllaw11_great.snd  hp3)) ?_
    rintro _ _ ⟨rfl, rfl⟩
    refine hr_region_end ?_
    try dsimp only [w0, w1, w2, w3]
    rcases ifc h with ⟨hc4, h⟩ | ⟨hc4, h⟩
    · refine q_cond_t rfl (.tmp rfl) hc4 ?_
      refine q_seq rfl ?_
      refine q_region rfl rfl ?_
      refine qS 4 rfl (ok_assign · (.bool _)) ?_
      refine hr_region_end ?_
      try dsimp only [w0, w1, w2, w3]
      cases h
      exact q_ret rfl at_.at_ rfl (res1 rfl rfl) ⟨rfl, rfl⟩
    · refine q_cond_f rfl (.tmp rfl) (bfalse hc4) ?_
      refine q_skipc rfl ?_
      refine q_seq rfl ?_
      refine q_region rfl rfl ?_
      refine qS 20 rfl (ok_move · (.tmp rfl)) ?_
      obtain ⟨p5, hp5, h⟩ := bindo h
      refine q_call (dst := some 21) rfl (.func _) (.cons (.tmp rfl) Evs.nil) (HInv.static pair_New_int_string.at_ pair_New_int_string.body (pair_New_int_string.snd  hp5)) ?_
      rintro _ _ ⟨rfl, rfl⟩
      refine qS 19 rfl (ok_move · (.tmp rfl)) ?_
      refine qS 22 rfl (ok_extract · (.tmp rfl) rfl) ?_
      try dsimp only [w0, w1, w2, w3]
      refine qS 23 rfl (ok_extract · (.tmp rfl) rfl) ?_
      refine qS 5 rfl (ok_assign · (.tmp rfl)) ?_
      refine qS 6 rfl (ok_assign · (.tmp rfl)) ?_
      refine hr_region_end ?_
      try dsimp only [w0, w1, w2, w3]
      refine q_seq rfl ?_
      refine q_seq rfl ?_
      refine q_region rfl rfl ?_
      refine qS 24 rfl (ok_move · (.tmp rfl)) ?_
      refine qS 25 rfl (ok_ibin · (.tmp rfl) (.int _ _) rfl) ?_
      refine qS 26 rfl (ok_move · (.tmp rfl)) ?_
      rcases ifc h with ⟨hc6, h⟩ | ⟨hc6, h⟩
      · refine q_skip (dst := some 27) (t := 26) rfl rfl rfl (decide_eq_true hc6) ?_
        try dsimp only [w0, w1, w2, w3]
        refine q_skip (dst := some 28) (t := 26) rfl rfl rfl (decide_eq_true hc6) ?_
        refine qS 29 rfl (ok_pick_tt · (.tmp rfl) (decide_eq_true hc6) (.bool _)) ?_
        refine hr_region_end ?_
        try dsimp only [w0, w1, w2, w3]
        try dsimp only [w0, w1, w2, w3]
        exact J0_snd hD hH h
      · refine qG 26 27 rfl (decide_eq_false hc6) (ok_move · (.tmp rfl)) ?_
        try dsimp only [w0, w1, w2, w3]
        refine qG 26 28 rfl (decide_eq_false hc6) (ok_ibin · (.tmp rfl) (.int _ _) rfl) ?_
        refine qS 29 rfl (ok_pick_ff · (.tmp rfl) (decide_eq_false hc6) (.tmp rfl)) ?_
        refine hr_region_end ?_
        try dsimp only [w0, w1, w2, w3]
        try dsimp only [w0, w1, w2, w3]
        exact J0_snd hD hH h
end
end rollcalllaw11_PairPlays
end Go.Proofs.Ytdgmehfhgppheaa.X
