/- Functions of the program, each as a Lean function over the layer HL: a call answers what the Lean function answers, where it answers. -/
import Derived.Test.YtlfdaflngmkldaaProg
import Derived.Test.YtlfdaflngmkldaaBfX
namespace Go.Proofs.Ytlfdaflngmkldaa.X
open Go.Proofs.Ytlfdaflngmkldaa.HL
set_option linter.unusedVariables false
set_option linter.unusedSimpArgs false
set_option maxRecDepth 20000
set_option maxHeartbeats 4000000
namespace rollcalllaw02_BookFull
theorem at_ : FnAt Try.prog 3 Try.f3 := ⟨Try.func3, by kernel_rfl⟩
noncomputable def d0 := (Try.f3.body).getD .skip
noncomputable def r1 := kR (kA d0)
noncomputable def r4 := kR (kA (kA (kB d0)))
noncomputable def r7 := kR (kA (kA (kB (kA (kB d0)))))
noncomputable def r11 := kR (kA (kB (kB d0)))
noncomputable def d12 := kB (kB (kB d0))
noncomputable def r13 := kR (kA d12)
noncomputable def r16 := kR (kA (kA (kB d12)))
noncomputable def r19 := kR (kA (kA (kB (kA (kB d12)))))
noncomputable def d23 := kA (kB (kB d12))
noncomputable def r24 := kR (kA d23)
noncomputable def d27 := kA (kA (kB d23))
noncomputable def r29 := kR (kA (kA d27))
noncomputable def r36 := kR (kA (kA (kA (kB d27))))
noncomputable def r38 := kR (kA (kB (kA (kA (kB d27)))))
noncomputable def r41 := kR (kA (kA (kB (kB (kA (kA (kB d27)))))))
noncomputable def r44 := kR (kB (kB d27))
noncomputable def r46 := kR (kA (kB (kB (kB d12))))
noncomputable def c47 : Code := .ret
noncomputable def c45 : Code := .seq (.region 13 r46 false) c47
noncomputable def c44 : Code := .region 9 r44 false
noncomputable def c39 : Code := .cond (.tmp 41) (.seq (.region 12 r41 false) .ret) .skip
noncomputable def c27 : Code := .seq (.seq (.region 8 r29 false) (.cond (.tmp 21) .skip (.exit 0))) (.seq (.block 1 (.seq (.region 10 r36 false) (.seq (.region 11 r38 false) c39))) c44)
noncomputable def c0 : Code := .seq (.region 0 r1 false) (.seq (.seq (.region 1 r4 false) (.cond (.tmp 8) (.seq (.region 2 r7 false) .ret) .skip)) (.seq (.region 3 r11 false) (.seq (.region 4 r13 false) (.seq (.seq (.region 5 r16 false) (.cond (.tmp 17) (.seq (.region 6 r19 false) .ret) .skip)) (.seq (.seq (.region 7 r24 false) (.block 0 (.loop c27))) c45)))))
theorem body : Try.f3.body = some c0 := by kernel_rfl
section
variable {base : Nat} {W0 : World} {β0 : Bt}
def J1 (D : Dp) (H : Hd) (k : Nat) (rec0 : Int → (Option HA) → Int → HS → Option ((Bool) × HS)) (y3 : Int) (y4 : (Option HA)) (y6 : Int) (y41 : Bool) (S : HS) : Option ((Bool) × HS) :=
  (if y41 = true then
  some (false, S) else
  rec0 y3 y4 (w64 (y6 + 1)) S)
theorem J1_snd {D : Dp} {H : Hd} {k : Nat} {rec0 : Int → (Option HA) → Int → HS → Option ((Bool) × HS)} (hD : DSound Try.prog base W0 D) (hH : HSound Try.prog base W0 β0 H) (hrec0 : ∀ ⦃y3 : Int⦄ ⦃y4 : (Option HA)⦄ ⦃y6 : Int⦄ ⦃S : HS⦄ ⦃p : (Bool) × HS⦄ ⦃g0 g1 g2 g5 g7 g8 g9 g10 g11 g12 g13 g14 g15 g16 g17 g18 g19 g20 g21 g22 g23 g24 g25 g26 g27 g28 g29 g30 g31 g32 g33 g34 g35 g36 g37 g38 g39 g40 g41 g42 g43 g44 g45 g46 g47 g48 g49 g50 g51 g52 g53 g54 g55 g56 g57 g58 g59 g60 g61 g62 g63 g64 g65 g66 g67 g68 g69 : HV⦄, rec0 y3 y4 y6 S = some p → HRun Try.prog base W0 β0 3 none [.inLoop c27, .inBlock 0, .code c45] ⟨[g0, g1, g2, (.int .i64 y3), (.ptr y4), g5, (.int .i64 y6), g7, g8, g9, g10, g11, g12, g13, g14, g15, g16, g17, g18, g19, g20, g21, g22, g23, g24, g25, g26, g27, g28, g29, g30, g31, g32, g33, g34, g35, g36, g37, g38, g39, g40, g41, g42, g43, g44, g45, g46, g47, g48, g49, g50, g51, g52, g53, g54, g55, g56, g57, g58, g59, g60, g61, g62, g63, g64, g65, g66, g67, g68, g69], []⟩ S (fun v S1 => v = (.bool p.1) ∧ S1 = p.2)) {y3 : Int} {y4 : (Option HA)} {y6 : Int} {y41 : Bool} {S : HS} {p : (Bool) × HS} {g0 g1 g2 g5 g7 g8 g9 g10 g11 g12 g13 g14 g15 g16 g17 g18 g19 g20 g21 g22 g23 g24 g25 g26 g27 g28 g29 g30 g31 g32 g33 g34 g35 g36 g37 g38 g39 g40 g42 g43 g44 g45 g46 g47 g48 g49 g50 g51 g52 g53 g54 g55 g56 g57 g58 g59 g60 g61 g62 g63 g64 g65 g66 g67 g68 g69 : HV} (h : J1 D H k rec0 y3 y4 y6 y41 S = some p) : HRun Try.prog base W0 β0 3 none [.code c39, .inBlock 1, .code c44, .inLoop c27, .inBlock 0, .code c45] ⟨[g0, g1, g2, (.int .i64 y3), (.ptr y4), g5, (.int .i64 y6), g7, g8, g9, g10, g11, g12, g13, g14, g15, g16, g17, g18, g19, g20, g21, g22, g23, g24, g25, g26, g27, g28, g29, g30, g31, g32, g33, g34, g35, g36, g37, g38, g39, g40, (.bool y41), g42, g43, g44, g45, g46, g47, g48, g49, g50, g51, g52, g53, g54, g55, g56, g57, g58, g59, g60, g61, g62, g63, g64, g65, g66, g67, g68, g69], []⟩ S (fun v S1 => v = (.bool p.1) ∧ S1 = p.2) := by
  unfold J1 at h
  rcases ifc h with ⟨hc9, h⟩ | ⟨hc9, h⟩
  · refine q_cond_t rfl (.tmp rfl) hc9 ?_
    refine q_seq rfl ?_
    refine q_region rfl rfl ?_
    refine qS 2 rfl (ok_assign · (.bool _)) ?_
    refine hr_region_end ?_
    try dsimp only [w0, w1, w2, w3]
    cases h
    exact q_ret rfl at_.at_ rfl (res1 rfl rfl) ⟨rfl, rfl⟩
  · refine q_cond_f rfl (.tmp rfl) (bfalse hc9) ?_
    refine q_skipc rfl ?_
    refine hr_inBlock ?_
    refine q_region rfl rfl ?_
    refine qS 22 rfl (ok_move · (.tmp rfl)) ?_
    refine qS 23 rfl (ok_ibin · (.tmp rfl) (.int _ _) rfl) ?_
    refine qS 6 rfl (ok_assign · (.tmp rfl)) ?_
    refine hr_region_end ?_
    try dsimp only [w0, w1, w2, w3]
    try dsimp only [w0, w1, w2, w3]
    exact hrec0 h
def J2 (D : Dp) (H : Hd) (k : Nat) (rec0 : Int → (Option HA) → Int → HS → Option ((Bool) × HS)) (y3 : Int) (y4 : (Option HA)) (y6 : Int) (y34 : Bool) (y40 : Bool) (S : HS) : Option ((Bool) × HS) :=
  (if y34 = true then
  J1 D H k rec0 y3 y4 y6 true S else
  J1 D H k rec0 y3 y4 y6 y40 S)
theorem J2_snd {D : Dp} {H : Hd} {k : Nat} {rec0 : Int → (Option HA) → Int → HS → Option ((Bool) × HS)} (hD : DSound Try.prog base W0 D) (hH : HSound Try.prog base W0 β0 H) (hrec0 : ∀ ⦃y3 : Int⦄ ⦃y4 : (Option HA)⦄ ⦃y6 : Int⦄ ⦃S : HS⦄ ⦃p : (Bool) × HS⦄ ⦃g0 g1 g2 g5 g7 g8 g9 g10 g11 g12 g13 g14 g15 g16 g17 g18 g19 g20 g21 g22 g23 g24 g25 g26 g27 g28 g29 g30 g31 g32 g33 g34 g35 g36 g37 g38 g39 g40 g41 g42 g43 g44 g45 g46 g47 g48 g49 g50 g51 g52 g53 g54 g55 g56 g57 g58 g59 g60 g61 g62 g63 g64 g65 g66 g67 g68 g69 : HV⦄, rec0 y3 y4 y6 S = some p → HRun Try.prog base W0 β0 3 none [.inLoop c27, .inBlock 0, .code c45] ⟨[g0, g1, g2, (.int .i64 y3), (.ptr y4), g5, (.int .i64 y6), g7, g8, g9, g10, g11, g12, g13, g14, g15, g16, g17, g18, g19, g20, g21, g22, g23, g24, g25, g26, g27, g28, g29, g30, g31, g32, g33, g34, g35, g36, g37, g38, g39, g40, g41, g42, g43, g44, g45, g46, g47, g48, g49, g50, g51, g52, g53, g54, g55, g56, g57, g58, g59, g60, g61, g62, g63, g64, g65, g66, g67, g68, g69], []⟩ S (fun v S1 => v = (.bool p.1) ∧ S1 = p.2)) {y3 : Int} {y4 : (Option HA)} {y6 : Int} {y34 : Bool} {y40 : Bool} {S : HS} {p : (Bool) × HS} {g0 g1 g2 g5 g7 g8 g9 g10 g11 g12 g13 g14 g15 g16 g17 g18 g19 g20 g21 g22 g23 g24 g25 g26 g27 g28 g29 g30 g31 g32 g33 g35 g36 g37 g38 g39 g41 g42 g43 g44 g45 g46 g47 g48 g49 g50 g51 g52 g53 g54 g55 g56 g57 g58 g59 g60 g61 g62 g63 g64 g65 g66 g67 g68 g69 : HV} (h : J2 D H k rec0 y3 y4 y6 y34 y40 S = some p) : HRun Try.prog base W0 β0 3 none [.inRegion r38 [13], .code c39, .inBlock 1, .code c44, .inLoop c27, .inBlock 0, .code c45] ⟨[g0, g1, g2, (.int .i64 y3), (.ptr y4), g5, (.int .i64 y6), g7, g8, g9, g10, g11, g12, g13, g14, g15, g16, g17, g18, g19, g20, g21, g22, g23, g24, g25, g26, g27, g28, g29, g30, g31, g32, g33, (.bool y34), g35, g36, g37, g38, g39, (.bool y40), g41, g42, g43, g44, g45, g46, g47, g48, g49, g50, g51, g52, g53, g54, g55, g56, g57, g58, g59, g60, g61, g62, g63, g64, g65, g66, g67, g68, g69], []⟩ S (fun v S1 => v = (.bool p.1) ∧ S1 = p.2) := by
  unfold J2 at h
  rcases ifc h with ⟨hc11, h⟩ | ⟨hc11, h⟩
  · refine qS 41 rfl (ok_pick_tt · (.tmp rfl) hc11 (.bool _)) ?_
    refine hr_region_end ?_
    try dsimp only [w0, w1, w2, w3]
    try dsimp only [w0, w1, w2, w3]
    exact J1_snd hD hH hrec0 h
  · refine qS 41 rfl (ok_pick_ff · (.tmp rfl) (bfalse hc11) (.tmp rfl)) ?_
    refine hr_region_end ?_
    try dsimp only [w0, w1, w2, w3]
    try dsimp only [w0, w1, w2, w3]
    exact J1_snd hD hH hrec0 h
def J4 (D : Dp) (H : Hd) (k : Nat) (y69 : Bool) (S : HS) : Option ((Bool) × HS) :=
  some (y69, S)
theorem J4_snd {D : Dp} {H : Hd} {k : Nat} (hD : DSound Try.prog base W0 D) (hH : HSound Try.prog base W0 β0 H)  {y69 : Bool} {S : HS} {p : (Bool) × HS} {g0 g1 g2 g3 g4 g5 g6 g7 g8 g9 g10 g11 g12 g13 g14 g15 g16 g17 g18 g19 g20 g21 g22 g23 g24 g25 g26 g27 g28 g29 g30 g31 g32 g33 g34 g35 g36 g37 g38 g39 g40 g41 g42 g43 g44 g45 g46 g47 g48 g49 g50 g51 g52 g53 g54 g55 g56 g57 g58 g59 g60 g61 g62 g63 g64 g65 g66 g67 g68 : HV} (h : J4 D H k y69 S = some p) : HRun Try.prog base W0 β0 3 none [.inRegion r46 [28], .code c47] ⟨[g0, g1, g2, g3, g4, g5, g6, g7, g8, g9, g10, g11, g12, g13, g14, g15, g16, g17, g18, g19, g20, g21, g22, g23, g24, g25, g26, g27, g28, g29, g30, g31, g32, g33, g34, g35, g36, g37, g38, g39, g40, g41, g42, g43, g44, g45, g46, g47, g48, g49, g50, g51, g52, g53, g54, g55, g56, g57, g58, g59, g60, g61, g62, g63, g64, g65, g66, g67, g68, (.bool y69)], []⟩ S (fun v S1 => v = (.bool p.1) ∧ S1 = p.2) := by
  unfold J4 at h
  refine qS 2 rfl (ok_assign · (.tmp rfl)) ?_
  refine hr_region_end ?_
  try dsimp only [w0, w1, w2, w3]
  cases h
  exact q_ret rfl at_.at_ rfl (res1 rfl rfl) ⟨rfl, rfl⟩
def J3 (D : Dp) (H : Hd) (k : Nat) (y46 : Bool) (y68 : Bool) (S : HS) : Option ((Bool) × HS) :=
  (if y46 = true then
  J4 D H k y68 S else
  J4 D H k false S)
theorem J3_snd {D : Dp} {H : Hd} {k : Nat} (hD : DSound Try.prog base W0 D) (hH : HSound Try.prog base W0 β0 H)  {y46 : Bool} {y68 : Bool} {S : HS} {p : (Bool) × HS} {g0 g1 g2 g3 g4 g5 g6 g7 g8 g9 g10 g11 g12 g13 g14 g15 g16 g17 g18 g19 g20 g21 g22 g23 g24 g25 g26 g27 g28 g29 g30 g31 g32 g33 g34 g35 g36 g37 g38 g39 g40 g41 g42 g43 g44 g45 g47 g48 g49 g50 g51 g52 g53 g54 g55 g56 g57 g58 g59 g60 g61 g62 g63 g64 g65 g66 g67 g69 : HV} (h : J3 D H k y46 y68 S = some p) : HRun Try.prog base W0 β0 3 none [.inRegion r46 [27, 28], .code c47] ⟨[g0, g1, g2, g3, g4, g5, g6, g7, g8, g9, g10, g11, g12, g13, g14, g15, g16, g17, g18, g19, g20, g21, g22, g23, g24, g25, g26, g27, g28, g29, g30, g31, g32, g33, g34, g35, g36, g37, g38, g39, g40, g41, g42, g43, g44, g45, (.bool y46), g47, g48, g49, g50, g51, g52, g53, g54, g55, g56, g57, g58, g59, g60, g61, g62, g63, g64, g65, g66, g67, (.bool y68), g69], []⟩ S (fun v S1 => v = (.bool p.1) ∧ S1 = p.2) := by
  unfold J3 at h
  rcases ifc h with ⟨hc15, h⟩ | ⟨hc15, h⟩
  · refine qS 69 rfl (ok_pick_tt · (.tmp rfl) hc15 (.tmp rfl)) ?_
    try dsimp only [w0, w1, w2, w3]
    try dsimp only [w0, w1, w2, w3]
    exact J4_snd hD hH h
  · refine qS 69 rfl (ok_pick_ff · (.tmp rfl) (bfalse hc15) (.bool _)) ?_
    try dsimp only [w0, w1, w2, w3]
    try dsimp only [w0, w1, w2, w3]
    exact J4_snd hD hH h
def J7 (D : Dp) (H : Hd) (k : Nat) (y46 : Bool) (y49 : Bool) (y67 : Bool) (S : HS) : Option ((Bool) × HS) :=
  (if y46 = true then
  (if y49 = true then
  J3 D H k y46 true S else
  J3 D H k y46 y67 S) else
  J4 D H k false S)
theorem J7_snd {D : Dp} {H : Hd} {k : Nat} (hD : DSound Try.prog base W0 D) (hH : HSound Try.prog base W0 β0 H)  {y46 : Bool} {y49 : Bool} {y67 : Bool} {S : HS} {p : (Bool) × HS} {g0 g1 g2 g3 g4 g5 g6 g7 g8 g9 g10 g11 g12 g13 g14 g15 g16 g17 g18 g19 g20 g21 g22 g23 g24 g25 g26 g27 g28 g29 g30 g31 g32 g33 g34 g35 g36 g37 g38 g39 g40 g41 g42 g43 g44 g45 g47 g48 g50 g51 g52 g53 g54 g55 g56 g57 g58 g59 g60 g61 g62 g63 g64 g65 g66 g68 g69 : HV} (h : J7 D H k y46 y49 y67 S = some p) : HRun Try.prog base W0 β0 3 none [.inRegion r46 [26, 27, 28], .code c47] ⟨[g0, g1, g2, g3, g4, g5, g6, g7, g8, g9, g10, g11, g12, g13, g14, g15, g16, g17, g18, g19, g20, g21, g22, g23, g24, g25, g26, g27, g28, g29, g30, g31, g32, g33, g34, g35, g36, g37, g38, g39, g40, g41, g42, g43, g44, g45, (.bool y46), g47, g48, (.bool y49), g50, g51, g52, g53, g54, g55, g56, g57, g58, g59, g60, g61, g62, g63, g64, g65, g66, (.bool y67), g68, g69], []⟩ S (fun v S1 => v = (.bool p.1) ∧ S1 = p.2) := by
  unfold J7 at h
  rcases ifc h with ⟨hc27, h⟩ | ⟨hc27, h⟩
  · rcases ifc h with ⟨hc28, h⟩ | ⟨hc28, h⟩
    · refine qG 46 68 rfl hc27 (ok_pick_tt · (.tmp rfl) hc28 (.bool _)) ?_
      try dsimp only [w0, w1, w2, w3]
      exact J3_snd hD hH h
    · refine qG 46 68 rfl hc27 (ok_pick_ff · (.tmp rfl) (bfalse hc28) (.tmp rfl)) ?_
      try dsimp only [w0, w1, w2, w3]
      exact J3_snd hD hH h
  · refine q_skip (dst := some 68) (t := 46) rfl rfl rfl (bfalse hc27) ?_
    refine qS 69 rfl (ok_pick_ff · (.tmp rfl) (bfalse hc27) (.bool _)) ?_
    try dsimp only [w0, w1, w2, w3]
    try dsimp only [w0, w1, w2, w3]
    exact J4_snd hD hH h
def J6 (D : Dp) (H : Hd) (k : Nat) (y4 : (Option HA)) (y46 : Bool) (y49 : Bool) (y62 : Bool) (S : HS) : Option ((Bool) × HS) :=
  (if y49 = true then
  (if y46 = true then
  J3 D H k y46 true S else
  J4 D H k false S) else
  (if y62 = true then
  (Option.bind (book_Book_bool_Put.f D H k y4 ([110, 101, 119] : List UInt8) true S) fun p26 =>
  J7 D H k y46 y49 (decide (p26.1 = 0)) p26.2) else
  J7 D H k y46 y49 false S))
theorem J6_snd {D : Dp} {H : Hd} {k : Nat} (hD : DSound Try.prog base W0 D) (hH : HSound Try.prog base W0 β0 H)  {y4 : (Option HA)} {y46 : Bool} {y49 : Bool} {y62 : Bool} {S : HS} {p : (Bool) × HS} {g0 g1 g2 g3 g5 g6 g7 g8 g9 g10 g11 g12 g13 g14 g15 g16 g17 g18 g19 g20 g21 g22 g23 g24 g25 g26 g27 g28 g29 g30 g31 g32 g33 g34 g35 g36 g37 g38 g39 g40 g41 g42 g43 g44 g45 g47 g48 g50 g51 g52 g53 g54 g55 g56 g57 g58 g59 g60 g61 g63 g64 g65 g66 g67 g68 g69 : HV} (h : J6 D H k y4 y46 y49 y62 S = some p) : HRun Try.prog base W0 β0 3 none [.inRegion r46 [21, 22, 23, 24, 25, 26, 27, 28], .code c47] ⟨[g0, g1, g2, g3, (.ptr y4), g5, g6, g7, g8, g9, g10, g11, g12, g13, g14, g15, g16, g17, g18, g19, g20, g21, g22, g23, g24, g25, g26, g27, g28, g29, g30, g31, g32, g33, g34, g35, g36, g37, g38, g39, g40, g41, g42, g43, g44, g45, (.bool y46), g47, g48, (.bool y49), g50, g51, g52, g53, g54, g55, g56, g57, g58, g59, g60, g61, (.bool y62), g63, g64, g65, g66, g67, g68, g69], []⟩ S (fun v S1 => v = (.bool p.1) ∧ S1 = p.2) := by
  unfold J6 at h
  rcases ifc h with ⟨hc23, h⟩ | ⟨hc23, h⟩
  · refine q_skip (dst := some 63) (t := 49) rfl rfl rfl hc23 ?_
    refine q_skip_u (dst := some 64) (t := 63) rfl rfl rfl ?_
    refine q_skip_u (dst := some 65) (t := 63) rfl rfl rfl ?_
    try dsimp only [w0, w1, w2, w3]
    refine q_skip_u (dst := some 66) (t := 63) rfl rfl rfl ?_
    refine q_skip (dst := some 67) (t := 49) rfl rfl rfl hc23 ?_
    rcases ifc h with ⟨hc24, h⟩ | ⟨hc24, h⟩
    · refine qG 46 68 rfl hc24 (ok_pick_tt · (.tmp rfl) hc23 (.bool _)) ?_
      try dsimp only [w0, w1, w2, w3]
      exact J3_snd hD hH h
    · refine q_skip (dst := some 68) (t := 46) rfl rfl rfl (bfalse hc24) ?_
      refine qS 69 rfl (ok_pick_ff · (.tmp rfl) (bfalse hc24) (.bool _)) ?_
      try dsimp only [w0, w1, w2, w3]
      try dsimp only [w0, w1, w2, w3]
      exact J4_snd hD hH h
  · refine qG 49 63 rfl (bfalse hc23) (ok_move · (.tmp rfl)) ?_
    rcases ifc h with ⟨hc25, h⟩ | ⟨hc25, h⟩
    · refine qG 63 64 rfl hc25 (ok_move · (.tmp rfl)) ?_
      obtain ⟨p26, hp26, h⟩ := bindo h
      refine q_call_g (t := 63) (dst := some 65) rfl rfl rfl hc25 (.func _) (.cons (.tmp rfl) (.cons (.str _) (.cons (.bool _) Evs.nil))) (HInv.static book_Book_bool_Put.at_ book_Book_bool_Put.body (book_Book_bool_Put.snd hD hH hp26)) ?_
      rintro _ _ ⟨rfl, rfl⟩
      try dsimp only [w0, w1, w2, w3]
      refine qG 63 66 rfl hc25 (ok_ibin · (.tmp rfl) (.int _ _) rfl) ?_
      refine qG 49 67 rfl (bfalse hc23) (ok_pick_tt · (.tmp rfl) hc25 (.tmp rfl)) ?_
      try dsimp only [w0, w1, w2, w3]
      exact J7_snd hD hH h
    · refine q_skip (dst := some 64) (t := 63) rfl rfl rfl (bfalse hc25) ?_
      refine q_skip (dst := some 65) (t := 63) rfl rfl rfl (bfalse hc25) ?_
      try dsimp only [w0, w1, w2, w3]
      refine q_skip (dst := some 66) (t := 63) rfl rfl rfl (bfalse hc25) ?_
      refine qG 49 67 rfl (bfalse hc23) (ok_pick_ff · (.tmp rfl) (bfalse hc25) (.bool _)) ?_
      try dsimp only [w0, w1, w2, w3]
      exact J7_snd hD hH h
def J5 (D : Dp) (H : Hd) (k : Nat) (y4 : (Option HA)) (y46 : Bool) (y49 : Bool) (y58 : Bool) (S : HS) : Option ((Bool) × HS) :=
  (if y49 = true then
  (if y46 = true then
  J3 D H k y46 true S else
  J4 D H k false S) else
  (if y58 = true then
  (Option.bind (book_Book_bool_Delete.f D H k y4 ([48] : List UInt8) S) fun p22 =>
  J6 D H k y4 y46 y49 p22.1 p22.2) else
  J6 D H k y4 y46 y49 false S))
theorem J5_snd {D : Dp} {H : Hd} {k : Nat} (hD : DSound Try.prog base W0 D) (hH : HSound Try.prog base W0 β0 H)  {y4 : (Option HA)} {y46 : Bool} {y49 : Bool} {y58 : Bool} {S : HS} {p : (Bool) × HS} {g0 g1 g2 g3 g5 g6 g7 g8 g9 g10 g11 g12 g13 g14 g15 g16 g17 g18 g19 g20 g21 g22 g23 g24 g25 g26 g27 g28 g29 g30 g31 g32 g33 g34 g35 g36 g37 g38 g39 g40 g41 g42 g43 g44 g45 g47 g48 g50 g51 g52 g53 g54 g55 g56 g57 g59 g60 g61 g62 g63 g64 g65 g66 g67 g68 g69 : HV} (h : J5 D H k y4 y46 y49 y58 S = some p) : HRun Try.prog base W0 β0 3 none [.inRegion r46 [17, 18, 19, 20, 21, 22, 23, 24, 25, 26, 27, 28], .code c47] ⟨[g0, g1, g2, g3, (.ptr y4), g5, g6, g7, g8, g9, g10, g11, g12, g13, g14, g15, g16, g17, g18, g19, g20, g21, g22, g23, g24, g25, g26, g27, g28, g29, g30, g31, g32, g33, g34, g35, g36, g37, g38, g39, g40, g41, g42, g43, g44, g45, (.bool y46), g47, g48, (.bool y49), g50, g51, g52, g53, g54, g55, g56, g57, (.bool y58), g59, g60, g61, g62, g63, g64, g65, g66, g67, g68, g69], []⟩ S (fun v S1 => v = (.bool p.1) ∧ S1 = p.2) := by
  unfold J5 at h
  rcases ifc h with ⟨hc19, h⟩ | ⟨hc19, h⟩
  · refine q_skip (dst := some 59) (t := 49) rfl rfl rfl hc19 ?_
    refine q_skip_u (dst := some 60) (t := 59) rfl rfl rfl ?_
    refine q_skip_u (dst := some 61) (t := 59) rfl rfl rfl ?_
    try dsimp only [w0, w1, w2, w3]
    refine q_skip (dst := some 62) (t := 49) rfl rfl rfl hc19 ?_
    refine q_skip (dst := some 63) (t := 49) rfl rfl rfl hc19 ?_
    refine q_skip_u (dst := some 64) (t := 63) rfl rfl rfl ?_
    refine q_skip_u (dst := some 65) (t := 63) rfl rfl rfl ?_
    try dsimp only [w0, w1, w2, w3]
    refine q_skip_u (dst := some 66) (t := 63) rfl rfl rfl ?_
    refine q_skip (dst := some 67) (t := 49) rfl rfl rfl hc19 ?_
    rcases ifc h with ⟨hc20, h⟩ | ⟨hc20, h⟩
    · refine qG 46 68 rfl hc20 (ok_pick_tt · (.tmp rfl) hc19 (.bool _)) ?_
      try dsimp only [w0, w1, w2, w3]
      exact J3_snd hD hH h
    · refine q_skip (dst := some 68) (t := 46) rfl rfl rfl (bfalse hc20) ?_
      refine qS 69 rfl (ok_pick_ff · (.tmp rfl) (bfalse hc20) (.bool _)) ?_
      try dsimp only [w0, w1, w2, w3]
      try dsimp only [w0, w1, w2, w3]
      exact J4_snd hD hH h
  · refine qG 49 59 rfl (bfalse hc19) (ok_move · (.tmp rfl)) ?_
    rcases ifc h with ⟨hc21, h⟩ | ⟨hc21, h⟩
    · refine qG 59 60 rfl hc21 (ok_move · (.tmp rfl)) ?_
      obtain ⟨p22, hp22, h⟩ := bindo h
      refine q_call_g (t := 59) (dst := some 61) rfl rfl rfl hc21 (.func _) (.cons (.tmp rfl) (.cons (.str _) Evs.nil)) (HInv.static book_Book_bool_Delete.at_ book_Book_bool_Delete.body (book_Book_bool_Delete.snd hD hH hp22)) ?_
      rintro _ _ ⟨rfl, rfl⟩
      try dsimp only [w0, w1, w2, w3]
      refine qG 49 62 rfl (bfalse hc19) (ok_pick_tt · (.tmp rfl) hc21 (.tmp rfl)) ?_
      try dsimp only [w0, w1, w2, w3]
      exact J6_snd hD hH h
    · refine q_skip (dst := some 60) (t := 59) rfl rfl rfl (bfalse hc21) ?_
      refine q_skip (dst := some 61) (t := 59) rfl rfl rfl (bfalse hc21) ?_
      try dsimp only [w0, w1, w2, w3]
      refine qG 49 62 rfl (bfalse hc19) (ok_pick_ff · (.tmp rfl) (bfalse hc21) (.bool _)) ?_
      try dsimp only [w0, w1, w2, w3]
      exact J6_snd hD hH h
def L0 (D : Dp) (H : Hd) (k : Nat) : Nat → Int → (Option HA) → Int → HS → Option ((Bool) × HS)
  | 0, _, _, _, _ => none
  | n + 1, y3, y4, y6, S =>
    (if y6 < (w64 (y3 + 3)) then
    (Option.bind (rollcallref01_Digits.f y6) fun p6 =>
    (Option.bind (book_Book_bool_Put.f D H k y4 p6 true S) fun p7 =>
    (if (!((decide (p7.1 = 0)) == (decide (y6 < y3)))) = true then
    J1 D H k (L0 D H k n) y3 y4 y6 true p7.2 else
    (if (!decide (p7.1 = 0)) = true then
    J2 D H k (L0 D H k n) y3 y4 y6 (!((decide (p7.1 = 0)) == (decide (y6 < y3)))) (!decide (p7.1 = 7)) p7.2 else
    J2 D H k (L0 D H k n) y3 y4 y6 (!((decide (p7.1 = 0)) == (decide (y6 < y3)))) false p7.2)))) else
    (Option.bind (book_Book_bool_Len.f y4 S) fun p12 =>
    (if p12.1 = y3 then
    (if y3 = 0 then
    J3 D H k (decide (p12.1 = y3)) true p12.2 else
    (Option.bind (book_Book_bool_Put.f D H k y4 ([48] : List UInt8) false p12.2) fun p16 =>
    (if p16.1 = 0 then
    (Option.bind (book_Book_bool_Len.f y4 p16.2) fun p18 =>
    J5 D H k y4 (decide (p12.1 = y3)) (decide (y3 = 0)) (decide (p18.1 = y3)) p18.2) else
    J5 D H k y4 (decide (p12.1 = y3)) (decide (y3 = 0)) false p16.2))) else
    J4 D H k false p12.2)))
theorem L0_snd {D : Dp} {H : Hd} {k : Nat} (hD : DSound Try.prog base W0 D) (hH : HSound Try.prog base W0 β0 H)  : ∀ {n : Nat} ⦃y3 : Int⦄ ⦃y4 : (Option HA)⦄ ⦃y6 : Int⦄ ⦃S : HS⦄ ⦃p : (Bool) × HS⦄ ⦃g0 g1 g2 g5 g7 g8 g9 g10 g11 g12 g13 g14 g15 g16 g17 g18 g19 g20 g21 g22 g23 g24 g25 g26 g27 g28 g29 g30 g31 g32 g33 g34 g35 g36 g37 g38 g39 g40 g41 g42 g43 g44 g45 g46 g47 g48 g49 g50 g51 g52 g53 g54 g55 g56 g57 g58 g59 g60 g61 g62 g63 g64 g65 g66 g67 g68 g69 : HV⦄, L0 D H k n y3 y4 y6 S = some p → HRun Try.prog base W0 β0 3 none [.inLoop c27, .inBlock 0, .code c45] ⟨[g0, g1, g2, (.int .i64 y3), (.ptr y4), g5, (.int .i64 y6), g7, g8, g9, g10, g11, g12, g13, g14, g15, g16, g17, g18, g19, g20, g21, g22, g23, g24, g25, g26, g27, g28, g29, g30, g31, g32, g33, g34, g35, g36, g37, g38, g39, g40, g41, g42, g43, g44, g45, g46, g47, g48, g49, g50, g51, g52, g53, g54, g55, g56, g57, g58, g59, g60, g61, g62, g63, g64, g65, g66, g67, g68, g69], []⟩ S (fun v S1 => v = (.bool p.1) ∧ S1 = p.2) := by
  intro n
  induction n with
  | zero => intro _ _ _ _ _ _ _ _ _ _ _ _ _ _ _ _ _ _ _ _ _ _ _ _ _ _ _ _ _ _ _ _ _ _ _ _ _ _ _ _ _ _ _ _ _ _ _ _ _ _ _ _ _ _ _ _ _ _ _ _ _ _ _ _ _ _ _ _ _ _ _ _ h; cases h
  | succ n ih =>
    intro y3 y4 y6 S p g0 g1 g2 g5 g7 g8 g9 g10 g11 g12 g13 g14 g15 g16 g17 g18 g19 g20 g21 g22 g23 g24 g25 g26 g27 g28 g29 g30 g31 g32 g33 g34 g35 g36 g37 g38 g39 g40 g41 g42 g43 g44 g45 g46 g47 g48 g49 g50 g51 g52 g53 g54 g55 g56 g57 g58 g59 g60 g61 g62 g63 g64 g65 g66 g67 g68 g69 h
    simp only [L0] at h
    refine hr_inLoop ?_
    refine q_seq rfl ?_
    refine q_seq rfl ?_
    refine q_region rfl rfl ?_
    refine qS 18 rfl (ok_move · (.tmp rfl)) ?_
    refine qS 19 rfl (ok_move · (.tmp rfl)) ?_
    refine qS 20 rfl (ok_ibin · (.tmp rfl) (.int _ _) rfl) ?_
    refine qS 21 rfl (ok_ibin · (.tmp rfl) (.tmp rfl) rfl) ?_
    refine hr_region_end ?_
    try dsimp only [w0, w1, w2, w3]
    rcases ifc h with ⟨hc5, h⟩ | ⟨hc5, h⟩
    · refine q_cond_t rfl (.tmp rfl) (decide_eq_true hc5) ?_
      refine q_skipc rfl ?_
      refine q_seq rfl ?_
      refine q_block rfl ?_
      refine q_seq rfl ?_
      refine q_region rfl rfl ?_
      refine qS 24 rfl (ok_move · (.tmp rfl)) ?_
      refine qS 25 rfl (ok_move · (.tmp rfl)) ?_
      obtain ⟨p6, hp6, h⟩ := bindo h
      refine q_call (dst := some 26) rfl (.func _) (.cons (.tmp rfl) Evs.nil) (HInv.static rollcallref01_Digits.at_ rollcallref01_Digits.body (rollcallref01_Digits.snd  hp6)) ?_
      rintro _ _ ⟨rfl, rfl⟩
      obtain ⟨p7, hp7, h⟩ := bindo h
      refine q_call (dst := some 27) rfl (.func _) (.cons (.tmp rfl) (.cons (.tmp rfl) (.cons (.bool _) Evs.nil))) (HInv.static book_Book_bool_Put.at_ book_Book_bool_Put.body (book_Book_bool_Put.snd hD hH hp7)) ?_
      rintro _ _ ⟨rfl, rfl⟩
      try dsimp only [w0, w1, w2, w3]
      refine qS 5 rfl (ok_assign · (.tmp rfl)) ?_
      refine hr_region_end ?_
      try dsimp only [w0, w1, w2, w3]
      refine q_seq rfl ?_
      refine q_region rfl rfl ?_
      refine qS 28 rfl (ok_move · (.tmp rfl)) ?_
      refine qS 29 rfl (ok_ibin · (.tmp rfl) (.int _ _) rfl) ?_
      refine qS 30 rfl (ok_move · (.tmp rfl)) ?_
      refine qS 31 rfl (ok_move · (.tmp rfl)) ?_
      try dsimp only [w0, w1, w2, w3]
      refine qS 32 rfl (ok_ibin · (.tmp rfl) (.tmp rfl) rfl) ?_
      refine qS 33 rfl (ok_beq · tu4 (.inr ⟨rfl, rfl⟩) (.tmp rfl) (.tmp rfl)) ?_
      refine qS 34 rfl (ok_move · (.tmp rfl)) ?_
      rcases ifc h with ⟨hc8, h⟩ | ⟨hc8, h⟩
      · refine q_skip (dst := some 35) (t := 34) rfl rfl rfl hc8 ?_
        try dsimp only [w0, w1, w2, w3]
        refine q_skip (dst := some 36) (t := 34) rfl rfl rfl hc8 ?_
        refine q_skip (dst := some 37) (t := 34) rfl rfl rfl hc8 ?_
        refine q_skip_u (dst := some 38) (t := 37) rfl rfl rfl ?_
        refine q_skip_u (dst := some 39) (t := 37) rfl rfl rfl ?_
        try dsimp only [w0, w1, w2, w3]
        refine q_skip (dst := some 40) (t := 34) rfl rfl rfl hc8 ?_
        refine qS 41 rfl (ok_pick_tt · (.tmp rfl) hc8 (.bool _)) ?_
        refine hr_region_end ?_
        try dsimp only [w0, w1, w2, w3]
        try dsimp only [w0, w1, w2, w3]
        exact J1_snd hD hH ih h
      · refine qG 34 35 rfl (bfalse hc8) (ok_move · (.tmp rfl)) ?_
        try dsimp only [w0, w1, w2, w3]
        refine qG 34 36 rfl (bfalse hc8) (ok_ibin · (.tmp rfl) (.int _ _) rfl) ?_
        refine qG 34 37 rfl (bfalse hc8) (ok_move · (.tmp rfl)) ?_
        rcases ifc h with ⟨hc10, h⟩ | ⟨hc10, h⟩
        · refine qG 37 38 rfl hc10 (ok_move · (.tmp rfl)) ?_
          refine qG 37 39 rfl hc10 (ok_ibin · (.tmp rfl) (.int _ _) rfl) ?_
          try dsimp only [w0, w1, w2, w3]
          refine qG 34 40 rfl (bfalse hc8) (ok_pick_tt · (.tmp rfl) hc10 (.tmp rfl)) ?_
          try dsimp only [w0, w1, w2, w3]
          exact J2_snd hD hH ih h
        · refine q_skip (dst := some 38) (t := 37) rfl rfl rfl (bfalse hc10) ?_
          refine q_skip (dst := some 39) (t := 37) rfl rfl rfl (bfalse hc10) ?_
          try dsimp only [w0, w1, w2, w3]
          refine qG 34 40 rfl (bfalse hc8) (ok_pick_ff · (.tmp rfl) (bfalse hc10) (.bool _)) ?_
          try dsimp only [w0, w1, w2, w3]
          exact J2_snd hD hH ih h
    · refine q_cond_f rfl (.tmp rfl) (decide_eq_false hc5) ?_
      refine q_exit rfl rfl ?_
      refine q_seq rfl ?_
      refine q_region rfl rfl ?_
      refine qS 42 rfl (ok_move · (.tmp rfl)) ?_
      obtain ⟨p12, hp12, h⟩ := bindo h
      refine q_call (dst := some 43) rfl (.func _) (.cons (.tmp rfl) Evs.nil) (HInv.static book_Book_bool_Len.at_ book_Book_bool_Len.body (book_Book_bool_Len.snd  hp12)) ?_
      rintro _ _ ⟨rfl, rfl⟩
      refine qS 44 rfl (ok_move · (.tmp rfl)) ?_
      refine qS 45 rfl (ok_ibin · (.tmp rfl) (.tmp rfl) rfl) ?_
      try dsimp only [w0, w1, w2, w3]
      refine qS 46 rfl (ok_move · (.tmp rfl)) ?_
      rcases ifc h with ⟨hc13, h⟩ | ⟨hc13, h⟩
      · refine qG 46 47 rfl (decide_eq_true hc13) (ok_move · (.tmp rfl)) ?_
        refine qG 46 48 rfl (decide_eq_true hc13) (ok_ibin · (.tmp rfl) (.int _ _) rfl) ?_
        refine qG 46 49 rfl (decide_eq_true hc13) (ok_move · (.tmp rfl)) ?_
        try dsimp only [w0, w1, w2, w3]
        rcases ifc h with ⟨hc14, h⟩ | ⟨hc14, h⟩
        · refine q_skip (dst := some 50) (t := 49) rfl rfl rfl (decide_eq_true hc14) ?_
          refine q_skip (dst := some 51) (t := 49) rfl rfl rfl (decide_eq_true hc14) ?_
          refine q_skip (dst := some 52) (t := 49) rfl rfl rfl (decide_eq_true hc14) ?_
          refine q_skip (dst := some 53) (t := 49) rfl rfl rfl (decide_eq_true hc14) ?_
          try dsimp only [w0, w1, w2, w3]
          refine q_skip_u (dst := some 54) (t := 53) rfl rfl rfl ?_
          refine q_skip_u (dst := some 55) (t := 53) rfl rfl rfl ?_
          refine q_skip_u (dst := some 56) (t := 53) rfl rfl rfl ?_
          refine q_skip_u (dst := some 57) (t := 53) rfl rfl rfl ?_
          try dsimp only [w0, w1, w2, w3]
          refine q_skip (dst := some 58) (t := 49) rfl rfl rfl (decide_eq_true hc14) ?_
          refine q_skip (dst := some 59) (t := 49) rfl rfl rfl (decide_eq_true hc14) ?_
          refine q_skip_u (dst := some 60) (t := 59) rfl rfl rfl ?_
          refine q_skip_u (dst := some 61) (t := 59) rfl rfl rfl ?_
          try dsimp only [w0, w1, w2, w3]
          refine q_skip (dst := some 62) (t := 49) rfl rfl rfl (decide_eq_true hc14) ?_
          refine q_skip (dst := some 63) (t := 49) rfl rfl rfl (decide_eq_true hc14) ?_
          refine q_skip_u (dst := some 64) (t := 63) rfl rfl rfl ?_
          refine q_skip_u (dst := some 65) (t := 63) rfl rfl rfl ?_
          try dsimp only [w0, w1, w2, w3]
          refine q_skip_u (dst := some 66) (t := 63) rfl rfl rfl ?_
          refine q_skip (dst := some 67) (t := 49) rfl rfl rfl (decide_eq_true hc14) ?_
          refine qG 46 68 rfl (decide_eq_true hc13) (ok_pick_tt · (.tmp rfl) (decide_eq_true hc14) (.bool _)) ?_
          try dsimp only [w0, w1, w2, w3]
          exact J3_snd hD hH h
        · refine qG 49 50 rfl (decide_eq_false hc14) (ok_move · (.tmp rfl)) ?_
          obtain ⟨p16, hp16, h⟩ := bindo h
          refine q_call_g (t := 49) (dst := some 51) rfl rfl rfl (decide_eq_false hc14) (.func _) (.cons (.tmp rfl) (.cons (.str _) (.cons (.bool _) Evs.nil))) (HInv.static book_Book_bool_Put.at_ book_Book_bool_Put.body (book_Book_bool_Put.snd hD hH hp16)) ?_
          rintro _ _ ⟨rfl, rfl⟩
          refine qG 49 52 rfl (decide_eq_false hc14) (ok_ibin · (.tmp rfl) (.int _ _) rfl) ?_
          refine qG 49 53 rfl (decide_eq_false hc14) (ok_move · (.tmp rfl)) ?_
          try dsimp only [w0, w1, w2, w3]
          rcases ifc h with ⟨hc17, h⟩ | ⟨hc17, h⟩
          · refine qG 53 54 rfl (decide_eq_true hc17) (ok_move · (.tmp rfl)) ?_
            obtain ⟨p18, hp18, h⟩ := bindo h
            refine q_call_g (t := 53) (dst := some 55) rfl rfl rfl (decide_eq_true hc17) (.func _) (.cons (.tmp rfl) Evs.nil) (HInv.static book_Book_bool_Len.at_ book_Book_bool_Len.body (book_Book_bool_Len.snd  hp18)) ?_
            rintro _ _ ⟨rfl, rfl⟩
            refine qG 53 56 rfl (decide_eq_true hc17) (ok_move · (.tmp rfl)) ?_
            refine qG 53 57 rfl (decide_eq_true hc17) (ok_ibin · (.tmp rfl) (.tmp rfl) rfl) ?_
            try dsimp only [w0, w1, w2, w3]
            refine qG 49 58 rfl (decide_eq_false hc14) (ok_pick_tt · (.tmp rfl) (decide_eq_true hc17) (.tmp rfl)) ?_
            try dsimp only [w0, w1, w2, w3]
            exact J5_snd hD hH h
          · refine q_skip (dst := some 54) (t := 53) rfl rfl rfl (decide_eq_false hc17) ?_
            refine q_skip (dst := some 55) (t := 53) rfl rfl rfl (decide_eq_false hc17) ?_
            refine q_skip (dst := some 56) (t := 53) rfl rfl rfl (decide_eq_false hc17) ?_
            refine q_skip (dst := some 57) (t := 53) rfl rfl rfl (decide_eq_false hc17) ?_
            try dsimp only [w0, w1, w2, w3]
            refine qG 49 58 rfl (decide_eq_false hc14) (ok_pick_ff · (.tmp rfl) (decide_eq_false hc17) (.bool _)) ?_
            try dsimp only [w0, w1, w2, w3]
            exact J5_snd hD hH h
      · refine q_skip (dst := some 47) (t := 46) rfl rfl rfl (decide_eq_false hc13) ?_
        refine q_skip (dst := some 48) (t := 46) rfl rfl rfl (decide_eq_false hc13) ?_
        refine q_skip (dst := some 49) (t := 46) rfl rfl rfl (decide_eq_false hc13) ?_
        try dsimp only [w0, w1, w2, w3]
        refine q_skip_u (dst := some 50) (t := 49) rfl rfl rfl ?_
        refine q_skip_u (dst := some 51) (t := 49) rfl rfl rfl ?_
        refine q_skip_u (dst := some 52) (t := 49) rfl rfl rfl ?_
        refine q_skip_u (dst := some 53) (t := 49) rfl rfl rfl ?_
        try dsimp only [w0, w1, w2, w3]
        refine q_skip_u (dst := some 54) (t := 53) rfl rfl rfl ?_
        refine q_skip_u (dst := some 55) (t := 53) rfl rfl rfl ?_
        refine q_skip_u (dst := some 56) (t := 53) rfl rfl rfl ?_
        refine q_skip_u (dst := some 57) (t := 53) rfl rfl rfl ?_
        try dsimp only [w0, w1, w2, w3]
        refine q_skip_u (dst := some 58) (t := 49) rfl rfl rfl ?_
        refine q_skip_u (dst := some 59) (t := 49) rfl rfl rfl ?_
        refine q_skip_u (dst := some 60) (t := 59) rfl rfl rfl ?_
        refine q_skip_u (dst := some 61) (t := 59) rfl rfl rfl ?_
        try dsimp only [w0, w1, w2, w3]
        refine q_skip_u (dst := some 62) (t := 49) rfl rfl rfl ?_
        refine q_skip_u (dst := some 63) (t := 49) rfl rfl rfl ?_
        refine q_skip_u (dst := some 64) (t := 63) rfl rfl rfl ?_
        refine q_skip_u (dst := some 65) (t := 63) rfl rfl rfl ?_
        try dsimp only [w0, w1, w2, w3]
        refine q_skip_u (dst := some 66) (t := 63) rfl rfl rfl ?_
        refine q_skip_u (dst := some 67) (t := 49) rfl rfl rfl ?_
        refine q_skip (dst := some 68) (t := 46) rfl rfl rfl (decide_eq_false hc13) ?_
        refine qS 69 rfl (ok_pick_ff · (.tmp rfl) (decide_eq_false hc13) (.bool _)) ?_
        try dsimp only [w0, w1, w2, w3]
        try dsimp only [w0, w1, w2, w3]
        exact J4_snd hD hH h
def f (D : Dp) (H : Hd) (k : Nat) (x0 : Int) (S : HS) : Option ((Bool) × HS) :=
  (Option.bind (rollcalllaw02_awake.f D H k S) fun p1 =>
  (if (!p1.1) = true then
  some (false, p1.2) else
  (Option.bind (book_New_bool.f (w64 x0) p1.2) fun p3 =>
  (if (!decide (p3.1.2 = 0)) = true then
  some (false, p3.2) else
  L0 D H k k (w64 x0) p3.1.1 0 p3.2))))
theorem snd {D : Dp} {H : Hd} {k : Nat} {x0 : Int} {S : HS} (hD : DSound Try.prog base W0 D) (hH : HSound Try.prog base W0 β0 H)  {p : (Bool) × HS} (h : f D H k x0 S = some p) : HCall Try.prog base W0 β0 3 [(.int .u8 x0)] S (fun v S1 => v = (.bool p.1) ∧ S1 = p.2) := by
  unfold f at h
  refine HCall.of_run at_.at_ body ?_
  show HRun Try.prog base W0 β0 3 none [.code c0] ⟨[(.int .u8 x0), τ, τ, τ, τ, τ, τ, τ, τ, τ, τ, τ, τ, τ, τ, τ, τ, τ, τ, τ, τ, τ, τ, τ, τ, τ, τ, τ, τ, τ, τ, τ, τ, τ, τ, τ, τ, τ, τ, τ, τ, τ, τ, τ, τ, τ, τ, τ, τ, τ, τ, τ, τ, τ, τ, τ, τ, τ, τ, τ, τ, τ, τ, τ, τ, τ, τ, τ, τ, τ], []⟩ S _
  refine q_seq rfl ?_
  refine q_region rfl rfl ?_
  refine qS 2 rfl (ok_assign · (.bool _)) ?_
  refine hr_region_end ?_
  try dsimp only [w0, w1, w2, w3]
  refine q_seq rfl ?_
  refine q_seq rfl ?_
  refine q_region rfl rfl ?_
  obtain ⟨p1, hp1, h⟩ := bindo h
  refine q_call (dst := some 7) rfl (.func _) Evs.nil (HInv.static rollcalllaw02_awake.at_ rollcalllaw02_awake.body (rollcalllaw02_awake.snd hD hH hp1)) ?_
  rintro _ _ ⟨rfl, rfl⟩
  refine qS 8 rfl (ok_not · (.tmp rfl)) ?_
  refine hr_region_end ?_
  try dsimp only [w0, w1, w2, w3]
  rcases ifc h with ⟨hc2, h⟩ | ⟨hc2, h⟩
  · refine q_cond_t rfl (.tmp rfl) hc2 ?_
    refine q_seq rfl ?_
    refine q_region rfl rfl ?_
    refine qS 2 rfl (ok_assign · (.bool _)) ?_
    refine hr_region_end ?_
    try dsimp only [w0, w1, w2, w3]
    cases h
    exact q_ret rfl at_.at_ rfl (res1 rfl rfl) ⟨rfl, rfl⟩
  · refine q_cond_f rfl (.tmp rfl) (bfalse hc2) ?_
    refine q_skipc rfl ?_
    refine q_seq rfl ?_
    refine q_region rfl rfl ?_
    refine qS 9 rfl (ok_move · (.tmp rfl)) ?_
    refine qS 10 rfl (ok_conv_int · tu5 tu3 (.tmp rfl)) ?_
    refine qS 3 rfl (ok_assign · (.tmp rfl)) ?_
    refine hr_region_end ?_
    try dsimp only [w0, w1, w2, w3]
    refine q_seq rfl ?_
    refine q_region rfl rfl ?_
    refine qS 12 rfl (ok_move · (.tmp rfl)) ?_
    obtain ⟨p3, hp3, h⟩ := bindo h
    refine q_call (dst := some 13) rfl (.func _) (.cons (.tmp rfl) Evs.nil) (HInv.static book_New_bool.at_ book_New_bool.body (book_New_bool.snd  hp3)) ?_
    rintro _ _ ⟨rfl, rfl⟩
    refine qS 11 rfl (ok_move · (.tmp rfl)) ?_
    refine qS 14 rfl (ok_extract · (.tmp rfl) rfl) ?_
    try dsimp only [w0, w1, w2, w3]
    refine qS 15 rfl (ok_extract · (.tmp rfl) rfl) ?_
    refine qS 4 rfl (ok_assign · (.tmp rfl)) ?_
    refine qS 5 rfl (ok_assign · (.tmp rfl)) ?_
    refine hr_region_end ?_
    try dsimp only [w0, w1, w2, w3]
    refine q_seq rfl ?_
    refine q_seq rfl ?_
    refine q_region rfl rfl ?_
    refine qS 16 rfl (ok_move · (.tmp rfl)) ?_
    refine qS 17 rfl (ok_ibin · (.tmp rfl) (.int _ _) rfl) ?_
    refine hr_region_end ?_
    try dsimp only [w0, w1, w2, w3]
    rcases ifc h with ⟨hc4, h⟩ | ⟨hc4, h⟩
    · refine q_cond_t rfl (.tmp rfl) hc4 ?_
      refine q_seq rfl ?_
      refine q_region rfl rfl ?_
      refine qS 2 rfl (ok_assign · (.bool _)) ?_
      refine hr_region_end ?_
      try dsimp only [w0, w1, w2, w3]
      cases h
      exact q_ret rfl at_.at_ rfl (res1 rfl rfl) ⟨rfl, rfl⟩
    · refine q_cond_f rfl (.tmp rfl) (bfalse hc4) ?_
      refine q_skipc rfl ?_
      refine q_seq rfl ?_
      refine q_seq rfl ?_
      refine q_region rfl rfl ?_
      refine qS 6 rfl (ok_assign · (.int _ _)) ?_
      refine hr_region_end ?_
      try dsimp only [w0, w1, w2, w3]
      refine q_block rfl ?_
      refine q_loop rfl ?_
      try dsimp only [w0, w1, w2, w3]
      exact L0_snd hD hH h
end
end rollcalllaw02_BookFull
section
variable {base : Nat} {W0 : World} {β0 : Bt}
def call_59 (D : Dp) (H : Hd) (k : Nat) (vs : List HV) (S : HS) : Option (HV × HS) :=
  Option.bind (args2 vs) fun a =>
  Option.bind (dA2 a.1) fun p0 =>
  Option.bind (dS p0.1) fun p1 =>
  Option.bind (dI .i64 p0.2) fun p2 =>
  Option.bind (dS a.2) fun p3 =>
  Option.bind (book_Book_int_at_1.f k p1 p2 p3 S) fun q =>
  some ((.int .i64 q.1), q.2)
theorem call_59_snd {D : Dp} {H : Hd} {k : Nat} (hD : DSound Try.prog base W0 D) (hH : HSound Try.prog base W0 β0 H) {vs : List HV} {S : HS} {p : HV × HS} (h : call_59 D H k vs S = some p) : HCall Try.prog base W0 β0 59 vs S (fun v1 S1 => v1 = p.1 ∧ S1 = p.2) := by
  unfold call_59 at h
  obtain ⟨a, ha, h⟩ := bindo h
  obtain ⟨p0, hp0, h⟩ := bindo h
  obtain ⟨p1, hp1, h⟩ := bindo h
  obtain ⟨p2, hp2, h⟩ := bindo h
  obtain ⟨p3, hp3, h⟩ := bindo h
  obtain ⟨q, hq, h⟩ := bindo h
  rw [args2_out ha, dA2_out hp0, dS_out hp1, dI_out hp2, dS_out hp3]
  cases h
  exact book_Book_int_at_1.snd hq
def call_48 (D : Dp) (H : Hd) (k : Nat) (vs : List HV) (S : HS) : Option (HV × HS) :=
  Option.bind (args2 vs) fun a =>
  Option.bind (dA2 a.1) fun p0 =>
  Option.bind (dS p0.1) fun p1 =>
  Option.bind (dB p0.2) fun p2 =>
  Option.bind (dS a.2) fun p3 =>
  Option.bind (book_Book_bool_at_1.f k p1 p2 p3 S) fun q =>
  some ((.int .i64 q.1), q.2)
theorem call_48_snd {D : Dp} {H : Hd} {k : Nat} (hD : DSound Try.prog base W0 D) (hH : HSound Try.prog base W0 β0 H) {vs : List HV} {S : HS} {p : HV × HS} (h : call_48 D H k vs S = some p) : HCall Try.prog base W0 β0 48 vs S (fun v1 S1 => v1 = p.1 ∧ S1 = p.2) := by
  unfold call_48 at h
  obtain ⟨a, ha, h⟩ := bindo h
  obtain ⟨p0, hp0, h⟩ := bindo h
  obtain ⟨p1, hp1, h⟩ := bindo h
  obtain ⟨p2, hp2, h⟩ := bindo h
  obtain ⟨p3, hp3, h⟩ := bindo h
  obtain ⟨q, hq, h⟩ := bindo h
  rw [args2_out ha, dA2_out hp0, dS_out hp1, dB_out hp2, dS_out hp3]
  cases h
  exact book_Book_bool_at_1.snd hq
def disp (k : Nat) : Nat → Dp
  | 0 => fun _ _ _ _ => none
  | n + 1 => fun H fv vs S => match fv with
    | .fn (.yield l) [] [] => Option.bind (H l) fun r => r vs S
    | .fn (.func f) xs ys => if f = 59 then call_59 (disp k n) H k (xs ++ vs ++ ys) S else if f = 48 then call_48 (disp k n) H k (xs ++ vs ++ ys) S else none
    | _ => none
theorem disp_func {k n : Nat} {H : Hd} {f : Nat} {xs ys vs : List HV} {S : HS} : disp k (n + 1) H (.fn (.func f) xs ys) vs S = (if f = 59 then call_59 (disp k n) H k (xs ++ vs ++ ys) S else if f = 48 then call_48 (disp k n) H k (xs ++ vs ++ ys) S else none) := rfl
theorem disp_yield {k n : Nat} {H : Hd} {l : Nat} {vs : List HV} {S : HS} : disp k (n + 1) H (.fn (.yield l) [] []) vs S = Option.bind (H l) fun r => r vs S := rfl
theorem disp_snd {k : Nat} : ∀ n, DSound Try.prog base W0 (disp k n) := by
  intro n
  induction n with
  | zero => intro _ _ _ _ _ _ _ _ h; cases h
  | succ n ih =>
    intro β0 H hH fv vs S v S' h
    unfold disp at h
    split at h
    · obtain ⟨r, hr, h⟩ := bindo h
      exact hH _ _ hr _ _ _ _ h
    · skip
      rcases ifc h with ⟨hf, h⟩ | ⟨hf, h⟩
      · subst hf; exact HInv.func book_Book_int_at_1.at_ book_Book_int_at_1.body (call_59_snd (k := k) ih hH h)
      rcases ifc h with ⟨hf, h⟩ | ⟨hf, h⟩
      · subst hf; exact HInv.func book_Book_bool_at_1.at_ book_Book_bool_at_1.body (call_48_snd (k := k) ih hH h)
      cases h
    · cases h
end
end Go.Proofs.Ytlfdaflngmkldaa.X
