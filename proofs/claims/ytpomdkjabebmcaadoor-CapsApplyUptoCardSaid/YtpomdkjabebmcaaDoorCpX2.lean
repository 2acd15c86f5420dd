/- Functions of the program, each as a Lean function over the layer HL: a call answers what the Lean function answers, where it answers. -/
import Derived.Test.YtpomdkjabebmcaaDoorProg
import Derived.Test.YtpomdkjabebmcaaDoorCpX
namespace Go.Proofs.YtpomdkjabebmcaaDoor.X
open Go.Proofs.YtpomdkjabebmcaaDoor.HL
set_option linter.unusedVariables false
set_option linter.unusedSimpArgs false
set_option maxRecDepth 20000
set_option maxHeartbeats 4000000
namespace rollcalllaw12_CapsTwo
theorem at_ : FnAt Tryd.prog 4 Tryd.f4 := ⟨Tryd.func4, by kernel_rfl⟩
noncomputable def d0 := (Tryd.f4.body).getD .skip
noncomputable def r1 := kR (kA d0)
noncomputable def r4 := kR (kA (kA (kB d0)))
noncomputable def r7 := kR (kA (kA (kB (kA (kB d0)))))
noncomputable def r12 := kR (kA (kA (kB (kB d0))))
noncomputable def r15 := kR (kA (kA (kB (kA (kB (kB d0))))))
noncomputable def d18 := kB (kB (kB d0))
noncomputable def r19 := kR (kA d18)
noncomputable def r21 := kR (kA (kB d18))
noncomputable def r23 := kR (kA (kB (kB d18)))
noncomputable def r26 := kR (kA (kA (kB (kB (kB d18)))))
noncomputable def r29 := kR (kA (kA (kB (kA (kB (kB (kB d18)))))))
noncomputable def r33 := kR (kA (kB (kB (kB (kB d18)))))
noncomputable def c34 : Code := .ret
noncomputable def c32 : Code := .seq (.region 10 r33 false) c34
noncomputable def c30 : Code := .ret
noncomputable def c27 : Code := .cond (.tmp 47) (.seq (.region 9 r29 false) c30) .skip
noncomputable def c18 : Code := .seq (.region 5 r19 false) (.seq (.region 6 r21 false) (.seq (.region 7 r23 false) (.seq (.seq (.region 8 r26 false) c27) c32)))
noncomputable def c13 : Code := .cond (.tmp 22) (.seq (.region 4 r15 false) .ret) .skip
noncomputable def c0 : Code := .seq (.region 0 r1 false) (.seq (.seq (.region 1 r4 false) (.cond (.tmp 14) (.seq (.region 2 r7 false) .ret) .skip)) (.seq (.seq (.region 3 r12 false) c13) c18))
theorem body : Tryd.f4.body = some c0 := by kernel_rfl
section
variable {base : Nat} {W0 : World} {β0 : Bt}
def J2 (D : Dp) (H : Hd) (k : Nat) (y53 : Bool) (S : HS) : Option ((Bool) × HS) :=
  some (y53, S)
theorem J2_snd {D : Dp} {H : Hd} {k : Nat} (hD : DSound Tryd.prog base W0 D) (hH : HSound Tryd.prog base W0 β0 H)  {y53 : Bool} {S : HS} {p : (Bool) × HS} {g0 g1 g2 g3 g4 g5 g6 g7 g8 g9 g10 g11 g12 g13 g14 g15 g16 g17 g18 g19 g20 g21 g22 g23 g24 g25 g26 g27 g28 g29 g30 g31 g32 g33 g34 g35 g36 g37 g38 g39 g40 g41 g42 g43 g44 g45 g46 g47 g48 g49 g50 g51 g52 g54 g55 g56 g57 g58 g59 g60 g61 g62 g63 g64 g65 g66 g67 g68 g69 g70 g71 g72 g73 g74 g75 g76 : HV} (h : J2 D H k y53 S = some p) : HRun Tryd.prog base W0 β0 4 none [.inRegion r29 [6], .code c30, .code c32] ⟨[g0, g1, g2, g3, g4, g5, g6, g7, g8, g9, g10, g11, g12, g13, g14, g15, g16, g17, g18, g19, g20, g21, g22, g23, g24, g25, g26, g27, g28, g29, g30, g31, g32, g33, g34, g35, g36, g37, g38, g39, g40, g41, g42, g43, g44, g45, g46, g47, g48, g49, g50, g51, g52, (.bool y53), g54, g55, g56, g57, g58, g59, g60, g61, g62, g63, g64, g65, g66, g67, g68, g69, g70, g71, g72, g73, g74, g75, g76], []⟩ S (fun v S1 => v = (.bool p.1) ∧ S1 = p.2) := by
  unfold J2 at h
  refine qS 6 rfl (ok_assign · (.tmp rfl)) ?_
  refine hr_region_end ?_
  try dsimp only [w0, w1, w2, w3]
  cases h
  exact q_ret rfl at_.at_ rfl (res1 rfl rfl) ⟨rfl, rfl⟩
def J7 (D : Dp) (H : Hd) (k : Nat) (y76 : Bool) (S : HS) : Option ((Bool) × HS) :=
  some (y76, S)
theorem J7_snd {D : Dp} {H : Hd} {k : Nat} (hD : DSound Tryd.prog base W0 D) (hH : HSound Tryd.prog base W0 β0 H)  {y76 : Bool} {S : HS} {p : (Bool) × HS} {g0 g1 g2 g3 g4 g5 g6 g7 g8 g9 g10 g11 g12 g13 g14 g15 g16 g17 g18 g19 g20 g21 g22 g23 g24 g25 g26 g27 g28 g29 g30 g31 g32 g33 g34 g35 g36 g37 g38 g39 g40 g41 g42 g43 g44 g45 g46 g47 g48 g49 g50 g51 g52 g53 g54 g55 g56 g57 g58 g59 g60 g61 g62 g63 g64 g65 g66 g67 g68 g69 g70 g71 g72 g73 g74 g75 : HV} (h : J7 D H k y76 S = some p) : HRun Tryd.prog base W0 β0 4 none [.inRegion r33 [23], .code c34] ⟨[g0, g1, g2, g3, g4, g5, g6, g7, g8, g9, g10, g11, g12, g13, g14, g15, g16, g17, g18, g19, g20, g21, g22, g23, g24, g25, g26, g27, g28, g29, g30, g31, g32, g33, g34, g35, g36, g37, g38, g39, g40, g41, g42, g43, g44, g45, g46, g47, g48, g49, g50, g51, g52, g53, g54, g55, g56, g57, g58, g59, g60, g61, g62, g63, g64, g65, g66, g67, g68, g69, g70, g71, g72, g73, g74, g75, (.bool y76)], []⟩ S (fun v S1 => v = (.bool p.1) ∧ S1 = p.2) := by
  unfold J7 at h
  refine qS 6 rfl (ok_assign · (.tmp rfl)) ?_
  refine hr_region_end ?_
  try dsimp only [w0, w1, w2, w3]
  cases h
  exact q_ret rfl at_.at_ rfl (res1 rfl rfl) ⟨rfl, rfl⟩
def J6 (D : Dp) (H : Hd) (k : Nat) (y69 : Bool) (y75 : Bool) (S : HS) : Option ((Bool) × HS) :=
  (if y69 = true then
  J7 D H k y75 S else
  J7 D H k false S)
theorem J6_snd {D : Dp} {H : Hd} {k : Nat} (hD : DSound Tryd.prog base W0 D) (hH : HSound Tryd.prog base W0 β0 H)  {y69 : Bool} {y75 : Bool} {S : HS} {p : (Bool) × HS} {g0 g1 g2 g3 g4 g5 g6 g7 g8 g9 g10 g11 g12 g13 g14 g15 g16 g17 g18 g19 g20 g21 g22 g23 g24 g25 g26 g27 g28 g29 g30 g31 g32 g33 g34 g35 g36 g37 g38 g39 g40 g41 g42 g43 g44 g45 g46 g47 g48 g49 g50 g51 g52 g53 g54 g55 g56 g57 g58 g59 g60 g61 g62 g63 g64 g65 g66 g67 g68 g70 g71 g72 g73 g74 g76 : HV} (h : J6 D H k y69 y75 S = some p) : HRun Tryd.prog base W0 β0 4 none [.inRegion r33 [22, 23], .code c34] ⟨[g0, g1, g2, g3, g4, g5, g6, g7, g8, g9, g10, g11, g12, g13, g14, g15, g16, g17, g18, g19, g20, g21, g22, g23, g24, g25, g26, g27, g28, g29, g30, g31, g32, g33, g34, g35, g36, g37, g38, g39, g40, g41, g42, g43, g44, g45, g46, g47, g48, g49, g50, g51, g52, g53, g54, g55, g56, g57, g58, g59, g60, g61, g62, g63, g64, g65, g66, g67, g68, (.bool y69), g70, g71, g72, g73, g74, (.bool y75), g76], []⟩ S (fun v S1 => v = (.bool p.1) ∧ S1 = p.2) := by
  unfold J6 at h
  rcases ifc h with ⟨hc19, h⟩ | ⟨hc19, h⟩
  · refine qS 76 rfl (ok_pick_tt · (.tmp rfl) hc19 (.tmp rfl)) ?_
    try dsimp only [w0, w1, w2, w3]
    exact J7_snd hD hH h
  · refine qS 76 rfl (ok_pick_ff · (.tmp rfl) (bfalse hc19) (.bool _)) ?_
    try dsimp only [w0, w1, w2, w3]
    exact J7_snd hD hH h
def J5 (D : Dp) (H : Hd) (k : Nat) (y7 : Int) (y9 : Int) (y10 : Bool) (y68 : Bool) (S : HS) : Option ((Bool) × HS) :=
  (if y68 = true then
  (if y10 = true then
  J6 D H k y68 true S else
  J6 D H k y68 (decide (y9 = y7)) S) else
  J7 D H k false S)
theorem J5_snd {D : Dp} {H : Hd} {k : Nat} (hD : DSound Tryd.prog base W0 D) (hH : HSound Tryd.prog base W0 β0 H)  {y7 : Int} {y9 : Int} {y10 : Bool} {y68 : Bool} {S : HS} {p : (Bool) × HS} {g0 g1 g2 g3 g4 g5 g6 g8 g11 g12 g13 g14 g15 g16 g17 g18 g19 g20 g21 g22 g23 g24 g25 g26 g27 g28 g29 g30 g31 g32 g33 g34 g35 g36 g37 g38 g39 g40 g41 g42 g43 g44 g45 g46 g47 g48 g49 g50 g51 g52 g53 g54 g55 g56 g57 g58 g59 g60 g61 g62 g63 g64 g65 g66 g67 g69 g70 g71 g72 g73 g74 g75 g76 : HV} (h : J5 D H k y7 y9 y10 y68 S = some p) : HRun Tryd.prog base W0 β0 4 none [.inRegion r33 [15, 16, 17, 18, 19, 20, 21, 22, 23], .code c34] ⟨[g0, g1, g2, g3, g4, g5, g6, (.int .i64 y7), g8, (.int .i64 y9), (.bool y10), g11, g12, g13, g14, g15, g16, g17, g18, g19, g20, g21, g22, g23, g24, g25, g26, g27, g28, g29, g30, g31, g32, g33, g34, g35, g36, g37, g38, g39, g40, g41, g42, g43, g44, g45, g46, g47, g48, g49, g50, g51, g52, g53, g54, g55, g56, g57, g58, g59, g60, g61, g62, g63, g64, g65, g66, g67, (.bool y68), g69, g70, g71, g72, g73, g74, g75, g76], []⟩ S (fun v S1 => v = (.bool p.1) ∧ S1 = p.2) := by
  unfold J5 at h
  refine qS 69 rfl (ok_move · (.tmp rfl)) ?_
  try dsimp only [w0, w1, w2, w3]
  rcases ifc h with ⟨hc17, h⟩ | ⟨hc17, h⟩
  · refine qG 69 70 rfl hc17 (ok_move · (.tmp rfl)) ?_
    refine qG 69 71 rfl hc17 (ok_move · (.tmp rfl)) ?_
    rcases ifc h with ⟨hc18, h⟩ | ⟨hc18, h⟩
    · refine q_skip (dst := some 72) (t := 71) rfl rfl rfl hc18 ?_
      refine q_skip (dst := some 73) (t := 71) rfl rfl rfl hc18 ?_
      try dsimp only [w0, w1, w2, w3]
      refine q_skip (dst := some 74) (t := 71) rfl rfl rfl hc18 ?_
      refine qG 69 75 rfl hc17 (ok_pick_tt · (.tmp rfl) hc18 (.bool _)) ?_
      try dsimp only [w0, w1, w2, w3]
      exact J6_snd hD hH h
    · refine qG 71 72 rfl (bfalse hc18) (ok_move · (.tmp rfl)) ?_
      refine qG 71 73 rfl (bfalse hc18) (ok_move · (.tmp rfl)) ?_
      try dsimp only [w0, w1, w2, w3]
      refine qG 71 74 rfl (bfalse hc18) (ok_ibin · (.tmp rfl) (.tmp rfl) rfl) ?_
      refine qG 69 75 rfl hc17 (ok_pick_ff · (.tmp rfl) (bfalse hc18) (.tmp rfl)) ?_
      try dsimp only [w0, w1, w2, w3]
      exact J6_snd hD hH h
  · refine q_skip (dst := some 70) (t := 69) rfl rfl rfl (bfalse hc17) ?_
    refine q_skip (dst := some 71) (t := 69) rfl rfl rfl (bfalse hc17) ?_
    refine q_skip_u (dst := some 72) (t := 71) rfl rfl rfl ?_
    refine q_skip_u (dst := some 73) (t := 71) rfl rfl rfl ?_
    try dsimp only [w0, w1, w2, w3]
    refine q_skip_u (dst := some 74) (t := 71) rfl rfl rfl ?_
    refine q_skip (dst := some 75) (t := 69) rfl rfl rfl (bfalse hc17) ?_
    refine qS 76 rfl (ok_pick_ff · (.tmp rfl) (bfalse hc17) (.bool _)) ?_
    try dsimp only [w0, w1, w2, w3]
    exact J7_snd hD hH h
def J4 (D : Dp) (H : Hd) (k : Nat) (y7 : Int) (y9 : Int) (y10 : Bool) (y61 : Bool) (y67 : Bool) (S : HS) : Option ((Bool) × HS) :=
  (if y61 = true then
  J5 D H k y7 y9 y10 y67 S else
  J5 D H k y7 y9 y10 false S)
theorem J4_snd {D : Dp} {H : Hd} {k : Nat} (hD : DSound Tryd.prog base W0 D) (hH : HSound Tryd.prog base W0 β0 H)  {y7 : Int} {y9 : Int} {y10 : Bool} {y61 : Bool} {y67 : Bool} {S : HS} {p : (Bool) × HS} {g0 g1 g2 g3 g4 g5 g6 g8 g11 g12 g13 g14 g15 g16 g17 g18 g19 g20 g21 g22 g23 g24 g25 g26 g27 g28 g29 g30 g31 g32 g33 g34 g35 g36 g37 g38 g39 g40 g41 g42 g43 g44 g45 g46 g47 g48 g49 g50 g51 g52 g53 g54 g55 g56 g57 g58 g59 g60 g62 g63 g64 g65 g66 g68 g69 g70 g71 g72 g73 g74 g75 g76 : HV} (h : J4 D H k y7 y9 y10 y61 y67 S = some p) : HRun Tryd.prog base W0 β0 4 none [.inRegion r33 [14, 15, 16, 17, 18, 19, 20, 21, 22, 23], .code c34] ⟨[g0, g1, g2, g3, g4, g5, g6, (.int .i64 y7), g8, (.int .i64 y9), (.bool y10), g11, g12, g13, g14, g15, g16, g17, g18, g19, g20, g21, g22, g23, g24, g25, g26, g27, g28, g29, g30, g31, g32, g33, g34, g35, g36, g37, g38, g39, g40, g41, g42, g43, g44, g45, g46, g47, g48, g49, g50, g51, g52, g53, g54, g55, g56, g57, g58, g59, g60, (.bool y61), g62, g63, g64, g65, g66, (.bool y67), g68, g69, g70, g71, g72, g73, g74, g75, g76], []⟩ S (fun v S1 => v = (.bool p.1) ∧ S1 = p.2) := by
  unfold J4 at h
  rcases ifc h with ⟨hc16, h⟩ | ⟨hc16, h⟩
  · refine qS 68 rfl (ok_pick_tt · (.tmp rfl) hc16 (.tmp rfl)) ?_
    try dsimp only [w0, w1, w2, w3]
    exact J5_snd hD hH h
  · refine qS 68 rfl (ok_pick_ff · (.tmp rfl) (bfalse hc16) (.bool _)) ?_
    try dsimp only [w0, w1, w2, w3]
    exact J5_snd hD hH h
def J3 (D : Dp) (H : Hd) (k : Nat) (y0 : Int) (y7 : Int) (y8 : Bool) (y9 : Int) (y10 : Bool) (y60 : Bool) (S : HS) : Option ((Bool) × HS) :=
  (if y60 = true then
  (if y8 = true then
  J4 D H k y7 y9 y10 y60 true S else
  J4 D H k y7 y9 y10 y60 (decide (y7 = y0)) S) else
  J5 D H k y7 y9 y10 false S)
theorem J3_snd {D : Dp} {H : Hd} {k : Nat} (hD : DSound Tryd.prog base W0 D) (hH : HSound Tryd.prog base W0 β0 H)  {y0 : Int} {y7 : Int} {y8 : Bool} {y9 : Int} {y10 : Bool} {y60 : Bool} {S : HS} {p : (Bool) × HS} {g1 g2 g3 g4 g5 g6 g11 g12 g13 g14 g15 g16 g17 g18 g19 g20 g21 g22 g23 g24 g25 g26 g27 g28 g29 g30 g31 g32 g33 g34 g35 g36 g37 g38 g39 g40 g41 g42 g43 g44 g45 g46 g47 g48 g49 g50 g51 g52 g53 g54 g55 g56 g57 g58 g59 g61 g62 g63 g64 g65 g66 g67 g68 g69 g70 g71 g72 g73 g74 g75 g76 : HV} (h : J3 D H k y0 y7 y8 y9 y10 y60 S = some p) : HRun Tryd.prog base W0 β0 4 none [.inRegion r33 [7, 8, 9, 10, 11, 12, 13, 14, 15, 16, 17, 18, 19, 20, 21, 22, 23], .code c34] ⟨[(.int .i64 y0), g1, g2, g3, g4, g5, g6, (.int .i64 y7), (.bool y8), (.int .i64 y9), (.bool y10), g11, g12, g13, g14, g15, g16, g17, g18, g19, g20, g21, g22, g23, g24, g25, g26, g27, g28, g29, g30, g31, g32, g33, g34, g35, g36, g37, g38, g39, g40, g41, g42, g43, g44, g45, g46, g47, g48, g49, g50, g51, g52, g53, g54, g55, g56, g57, g58, g59, (.bool y60), g61, g62, g63, g64, g65, g66, g67, g68, g69, g70, g71, g72, g73, g74, g75, g76], []⟩ S (fun v S1 => v = (.bool p.1) ∧ S1 = p.2) := by
  unfold J3 at h
  refine qS 61 rfl (ok_move · (.tmp rfl)) ?_
  try dsimp only [w0, w1, w2, w3]
  rcases ifc h with ⟨hc14, h⟩ | ⟨hc14, h⟩
  · refine qG 61 62 rfl hc14 (ok_move · (.tmp rfl)) ?_
    refine qG 61 63 rfl hc14 (ok_move · (.tmp rfl)) ?_
    rcases ifc h with ⟨hc15, h⟩ | ⟨hc15, h⟩
    · refine q_skip (dst := some 64) (t := 63) rfl rfl rfl hc15 ?_
      refine q_skip (dst := some 65) (t := 63) rfl rfl rfl hc15 ?_
      try dsimp only [w0, w1, w2, w3]
      refine q_skip (dst := some 66) (t := 63) rfl rfl rfl hc15 ?_
      refine qG 61 67 rfl hc14 (ok_pick_tt · (.tmp rfl) hc15 (.bool _)) ?_
      try dsimp only [w0, w1, w2, w3]
      exact J4_snd hD hH h
    · refine qG 63 64 rfl (bfalse hc15) (ok_move · (.tmp rfl)) ?_
      refine qG 63 65 rfl (bfalse hc15) (ok_move · (.tmp rfl)) ?_
      try dsimp only [w0, w1, w2, w3]
      refine qG 63 66 rfl (bfalse hc15) (ok_ibin · (.tmp rfl) (.tmp rfl) rfl) ?_
      refine qG 61 67 rfl hc14 (ok_pick_ff · (.tmp rfl) (bfalse hc15) (.tmp rfl)) ?_
      try dsimp only [w0, w1, w2, w3]
      exact J4_snd hD hH h
  · refine q_skip (dst := some 62) (t := 61) rfl rfl rfl (bfalse hc14) ?_
    refine q_skip (dst := some 63) (t := 61) rfl rfl rfl (bfalse hc14) ?_
    refine q_skip_u (dst := some 64) (t := 63) rfl rfl rfl ?_
    refine q_skip_u (dst := some 65) (t := 63) rfl rfl rfl ?_
    try dsimp only [w0, w1, w2, w3]
    refine q_skip_u (dst := some 66) (t := 63) rfl rfl rfl ?_
    refine q_skip (dst := some 67) (t := 61) rfl rfl rfl (bfalse hc14) ?_
    refine qS 68 rfl (ok_pick_ff · (.tmp rfl) (bfalse hc14) (.bool _)) ?_
    try dsimp only [w0, w1, w2, w3]
    exact J5_snd hD hH h
def J1 (D : Dp) (H : Hd) (k : Nat) (y0 : Int) (y7 : Int) (y8 : Bool) (y9 : Int) (y10 : Bool) (y11 : Int) (y12 : Bool) (y47 : Bool) (S : HS) : Option ((Bool) × HS) :=
  (if y47 = true then
  (if y12 = true then
  J2 D H k (decide (y11 = y9)) S else
  J2 D H k false S) else
  (if (!y12) = true then
  J3 D H k y0 y7 y8 y9 y10 (decide (y11 = y0)) S else
  J3 D H k y0 y7 y8 y9 y10 false S))
theorem J1_snd {D : Dp} {H : Hd} {k : Nat} (hD : DSound Tryd.prog base W0 D) (hH : HSound Tryd.prog base W0 β0 H)  {y0 : Int} {y7 : Int} {y8 : Bool} {y9 : Int} {y10 : Bool} {y11 : Int} {y12 : Bool} {y47 : Bool} {S : HS} {p : (Bool) × HS} {g1 g2 g3 g4 g5 g6 g13 g14 g15 g16 g17 g18 g19 g20 g21 g22 g23 g24 g25 g26 g27 g28 g29 g30 g31 g32 g33 g34 g35 g36 g37 g38 g39 g40 g41 g42 g43 g44 g45 g46 g48 g49 g50 g51 g52 g53 g54 g55 g56 g57 g58 g59 g60 g61 g62 g63 g64 g65 g66 g67 g68 g69 g70 g71 g72 g73 g74 g75 g76 : HV} (h : J1 D H k y0 y7 y8 y9 y10 y11 y12 y47 S = some p) : HRun Tryd.prog base W0 β0 4 none [.code c27, .code c32] ⟨[(.int .i64 y0), g1, g2, g3, g4, g5, g6, (.int .i64 y7), (.bool y8), (.int .i64 y9), (.bool y10), (.int .i64 y11), (.bool y12), g13, g14, g15, g16, g17, g18, g19, g20, g21, g22, g23, g24, g25, g26, g27, g28, g29, g30, g31, g32, g33, g34, g35, g36, g37, g38, g39, g40, g41, g42, g43, g44, g45, g46, (.bool y47), g48, g49, g50, g51, g52, g53, g54, g55, g56, g57, g58, g59, g60, g61, g62, g63, g64, g65, g66, g67, g68, g69, g70, g71, g72, g73, g74, g75, g76], []⟩ S (fun v S1 => v = (.bool p.1) ∧ S1 = p.2) := by
  unfold J1 at h
  rcases ifc h with ⟨hc11, h⟩ | ⟨hc11, h⟩
  · refine q_cond_t rfl (.tmp rfl) hc11 ?_
    refine q_seq rfl ?_
    refine q_region rfl rfl ?_
    refine qS 48 rfl (ok_move · (.tmp rfl)) ?_
    refine qS 49 rfl (ok_move · (.tmp rfl)) ?_
    rcases ifc h with ⟨hc12, h⟩ | ⟨hc12, h⟩
    · refine qG 49 50 rfl hc12 (ok_move · (.tmp rfl)) ?_
      refine qG 49 51 rfl hc12 (ok_move · (.tmp rfl)) ?_
      try dsimp only [w0, w1, w2, w3]
      refine qG 49 52 rfl hc12 (ok_ibin · (.tmp rfl) (.tmp rfl) rfl) ?_
      refine qS 53 rfl (ok_pick_tt · (.tmp rfl) hc12 (.tmp rfl)) ?_
      try dsimp only [w0, w1, w2, w3]
      exact J2_snd hD hH h
    · refine q_skip (dst := some 50) (t := 49) rfl rfl rfl (bfalse hc12) ?_
      refine q_skip (dst := some 51) (t := 49) rfl rfl rfl (bfalse hc12) ?_
      try dsimp only [w0, w1, w2, w3]
      refine q_skip (dst := some 52) (t := 49) rfl rfl rfl (bfalse hc12) ?_
      refine qS 53 rfl (ok_pick_ff · (.tmp rfl) (bfalse hc12) (.bool _)) ?_
      try dsimp only [w0, w1, w2, w3]
      exact J2_snd hD hH h
  · refine q_cond_f rfl (.tmp rfl) (bfalse hc11) ?_
    refine q_skipc rfl ?_
    refine q_seq rfl ?_
    refine q_region rfl rfl ?_
    refine qS 54 rfl (ok_move · (.tmp rfl)) ?_
    refine qS 55 rfl (ok_not · (.tmp rfl)) ?_
    refine qS 56 rfl (ok_move · (.tmp rfl)) ?_
    rcases ifc h with ⟨hc13, h⟩ | ⟨hc13, h⟩
    · refine qG 56 57 rfl hc13 (ok_move · (.tmp rfl)) ?_
      try dsimp only [w0, w1, w2, w3]
      refine qG 56 58 rfl hc13 (ok_move · (.tmp rfl)) ?_
      refine qG 56 59 rfl hc13 (ok_ibin · (.tmp rfl) (.tmp rfl) rfl) ?_
      refine qS 60 rfl (ok_pick_tt · (.tmp rfl) hc13 (.tmp rfl)) ?_
      try dsimp only [w0, w1, w2, w3]
      exact J3_snd hD hH h
    · refine q_skip (dst := some 57) (t := 56) rfl rfl rfl (bfalse hc13) ?_
      try dsimp only [w0, w1, w2, w3]
      refine q_skip (dst := some 58) (t := 56) rfl rfl rfl (bfalse hc13) ?_
      refine q_skip (dst := some 59) (t := 56) rfl rfl rfl (bfalse hc13) ?_
      refine qS 60 rfl (ok_pick_ff · (.tmp rfl) (bfalse hc13) (.bool _)) ?_
      try dsimp only [w0, w1, w2, w3]
      exact J3_snd hD hH h
def J0 (D : Dp) (H : Hd) (k : Nat) (y0 : Int) (y1 : (List UInt8)) (y2 : (List UInt8)) (y22 : Bool) (S : HS) : Option ((Bool) × HS) :=
  (if y22 = true then
  some (true, S) else
  (Option.bind (caps_Apply.f D H k y0 y1 S) fun p5 =>
  (Option.bind (caps_Apply.f D H k p5.1.1 y2 p5.2) fun p6 =>
  (if List.length y1 + List.length ([32] : List UInt8) ≤ 9223372036854775807 then
  (if List.length (y1 ++ ([32] : List UInt8)) + List.length y2 ≤ 9223372036854775807 then
  (Option.bind (caps_Apply.f D H k y0 ((y1 ++ ([32] : List UInt8)) ++ y2) p6.2) fun p9 =>
  (if p5.1.2 = true then
  J1 D H k y0 p5.1.1 p5.1.2 p6.1.1 p6.1.2 p9.1.1 p9.1.2 p6.1.2 p9.2 else
  J1 D H k y0 p5.1.1 p5.1.2 p6.1.1 p6.1.2 p9.1.1 p9.1.2 false p9.2)) else none) else none))))
theorem J0_snd {D : Dp} {H : Hd} {k : Nat} (hD : DSound Tryd.prog base W0 D) (hH : HSound Tryd.prog base W0 β0 H)  {y0 : Int} {y1 : (List UInt8)} {y2 : (List UInt8)} {y22 : Bool} {S : HS} {p : (Bool) × HS} {g3 g4 g5 g6 g7 g8 g9 g10 g11 g12 g13 g14 g15 g16 g17 g18 g19 g20 g21 g23 g24 g25 g26 g27 g28 g29 g30 g31 g32 g33 g34 g35 g36 g37 g38 g39 g40 g41 g42 g43 g44 g45 g46 g47 g48 g49 g50 g51 g52 g53 g54 g55 g56 g57 g58 g59 g60 g61 g62 g63 g64 g65 g66 g67 g68 g69 g70 g71 g72 g73 g74 g75 g76 : HV} (h : J0 D H k y0 y1 y2 y22 S = some p) : HRun Tryd.prog base W0 β0 4 none [.code c13, .code c18] ⟨[(.int .i64 y0), (.str y1), (.str y2), g3, g4, g5, g6, g7, g8, g9, g10, g11, g12, g13, g14, g15, g16, g17, g18, g19, g20, g21, (.bool y22), g23, g24, g25, g26, g27, g28, g29, g30, g31, g32, g33, g34, g35, g36, g37, g38, g39, g40, g41, g42, g43, g44, g45, g46, g47, g48, g49, g50, g51, g52, g53, g54, g55, g56, g57, g58, g59, g60, g61, g62, g63, g64, g65, g66, g67, g68, g69, g70, g71, g72, g73, g74, g75, g76], []⟩ S (fun v S1 => v = (.bool p.1) ∧ S1 = p.2) := by
  unfold J0 at h
  rcases ifc h with ⟨hc4, h⟩ | ⟨hc4, h⟩
  · refine q_cond_t rfl (.tmp rfl) hc4 ?_
    refine q_seq rfl ?_
    refine q_region rfl rfl ?_
    refine qS 6 rfl (ok_assign · (.bool _)) ?_
    refine hr_region_end ?_
    try dsimp only [w0, w1, w2, w3]
    cases h
    exact q_ret rfl at_.at_ rfl (res1 rfl rfl) ⟨rfl, rfl⟩
  · refine q_cond_f rfl (.tmp rfl) (bfalse hc4) ?_
    refine q_skipc rfl ?_
    refine q_seq rfl ?_
    refine q_region rfl rfl ?_
    refine qS 24 rfl (ok_move · (.tmp rfl)) ?_
    refine qS 25 rfl (ok_move · (.tmp rfl)) ?_
    obtain ⟨p5, hp5, h⟩ := bindo h
    refine q_call (dst := some 26) rfl (.func _) (.cons (.tmp rfl) (.cons (.tmp rfl) Evs.nil)) (HInv.static caps_Apply.at_ caps_Apply.body (caps_Apply.snd hD hH hp5)) ?_
    rintro _ _ ⟨rfl, rfl⟩
    refine qS 23 rfl (ok_move · (.tmp rfl)) ?_
    try dsimp only [w0, w1, w2, w3]
    refine qS 27 rfl (ok_extract · (.tmp rfl) rfl) ?_
    refine qS 28 rfl (ok_extract · (.tmp rfl) rfl) ?_
    refine qS 7 rfl (ok_assign · (.tmp rfl)) ?_
    refine qS 8 rfl (ok_assign · (.tmp rfl)) ?_
    refine hr_region_end ?_
    try dsimp only [w0, w1, w2, w3]
    refine q_seq rfl ?_
    refine q_region rfl rfl ?_
    refine qS 30 rfl (ok_move · (.tmp rfl)) ?_
    refine qS 31 rfl (ok_move · (.tmp rfl)) ?_
    obtain ⟨p6, hp6, h⟩ := bindo h
    refine q_call (dst := some 32) rfl (.func _) (.cons (.tmp rfl) (.cons (.tmp rfl) Evs.nil)) (HInv.static caps_Apply.at_ caps_Apply.body (caps_Apply.snd hD hH hp6)) ?_
    rintro _ _ ⟨rfl, rfl⟩
    refine qS 29 rfl (ok_move · (.tmp rfl)) ?_
    try dsimp only [w0, w1, w2, w3]
    refine qS 33 rfl (ok_extract · (.tmp rfl) rfl) ?_
    refine qS 34 rfl (ok_extract · (.tmp rfl) rfl) ?_
    refine qS 9 rfl (ok_assign · (.tmp rfl)) ?_
    refine qS 10 rfl (ok_assign · (.tmp rfl)) ?_
    refine hr_region_end ?_
    try dsimp only [w0, w1, w2, w3]
    refine q_seq rfl ?_
    refine q_region rfl rfl ?_
    refine qS 36 rfl (ok_move · (.tmp rfl)) ?_
    refine qS 37 rfl (ok_move · (.tmp rfl)) ?_
    obtain ⟨hg7, h⟩ := gd h
    refine qS 38 rfl (ok_sadd · (.tmp rfl) (.str _) hg7) ?_
    refine qS 39 rfl (ok_move · (.tmp rfl)) ?_
    try dsimp only [w0, w1, w2, w3]
    obtain ⟨hg8, h⟩ := gd h
    refine qS 40 rfl (ok_sadd · (.tmp rfl) (.tmp rfl) hg8) ?_
    obtain ⟨p9, hp9, h⟩ := bindo h
    refine q_call (dst := some 41) rfl (.func _) (.cons (.tmp rfl) (.cons (.tmp rfl) Evs.nil)) (HInv.static caps_Apply.at_ caps_Apply.body (caps_Apply.snd hD hH hp9)) ?_
    rintro _ _ ⟨rfl, rfl⟩
    refine qS 35 rfl (ok_move · (.tmp rfl)) ?_
    refine qS 42 rfl (ok_extract · (.tmp rfl) rfl) ?_
    try dsimp only [w0, w1, w2, w3]
    refine qS 43 rfl (ok_extract · (.tmp rfl) rfl) ?_
    refine qS 11 rfl (ok_assign · (.tmp rfl)) ?_
    refine qS 12 rfl (ok_assign · (.tmp rfl)) ?_
    refine hr_region_end ?_
    try dsimp only [w0, w1, w2, w3]
    refine q_seq rfl ?_
    refine q_seq rfl ?_
    refine q_region rfl rfl ?_
    refine qS 44 rfl (ok_move · (.tmp rfl)) ?_
    refine qS 45 rfl (ok_move · (.tmp rfl)) ?_
    rcases ifc h with ⟨hc10, h⟩ | ⟨hc10, h⟩
    · refine qG 45 46 rfl hc10 (ok_move · (.tmp rfl)) ?_
      refine qS 47 rfl (ok_pick_tt · (.tmp rfl) hc10 (.tmp rfl)) ?_
      refine hr_region_end ?_
      try dsimp only [w0, w1, w2, w3]
      try dsimp only [w0, w1, w2, w3]
      exact J1_snd hD hH h
    · refine q_skip (dst := some 46) (t := 45) rfl rfl rfl (bfalse hc10) ?_
      refine qS 47 rfl (ok_pick_ff · (.tmp rfl) (bfalse hc10) (.bool _)) ?_
      refine hr_region_end ?_
      try dsimp only [w0, w1, w2, w3]
      try dsimp only [w0, w1, w2, w3]
      exact J1_snd hD hH h
def f (D : Dp) (H : Hd) (k : Nat) (x0 : Int) (x1 : (List UInt8)) (x2 : (List UInt8)) (S : HS) : Option ((Bool) × HS) :=
  (Option.bind (rollcalllaw12_awake.f D H k S) fun p1 =>
  (if (!p1.1) = true then
  some (false, p1.2) else
  (if (List.length x1 : Int) > 60 then
  J0 D H k x0 x1 x2 true p1.2 else
  J0 D H k x0 x1 x2 (decide ((List.length x2 : Int) > 60)) p1.2)))
theorem snd {D : Dp} {H : Hd} {k : Nat} {x0 : Int} {x1 : (List UInt8)} {x2 : (List UInt8)} {S : HS} (hD : DSound Tryd.prog base W0 D) (hH : HSound Tryd.prog base W0 β0 H)  {p : (Bool) × HS} (h : f D H k x0 x1 x2 S = some p) : HCall Tryd.prog base W0 β0 4 [(.int .i64 x0), (.str x1), (.str x2)] S (fun v S1 => v = (.bool p.1) ∧ S1 = p.2) := by
  unfold f at h
  refine HCall.of_run at_.at_ body ?_
  show HRun Tryd.prog base W0 β0 4 none [.code c0] ⟨[(.int .i64 x0), (.str x1), (.str x2), τ, τ, τ, τ, τ, τ, τ, τ, τ, τ, τ, τ, τ, τ, τ, τ, τ, τ, τ, τ, τ, τ, τ, τ, τ, τ, τ, τ, τ, τ, τ, τ, τ, τ, τ, τ, τ, τ, τ, τ, τ, τ, τ, τ, τ, τ, τ, τ, τ, τ, τ, τ, τ, τ, τ, τ, τ, τ, τ, τ, τ, τ, τ, τ, τ, τ, τ, τ, τ, τ, τ, τ, τ, τ], []⟩ S _
  refine q_seq rfl ?_
  refine q_region rfl rfl ?_
  refine qS 6 rfl (ok_assign · (.bool _)) ?_
  refine hr_region_end ?_
  try dsimp only [w0, w1, w2, w3]
  refine q_seq rfl ?_
  refine q_seq rfl ?_
  refine q_region rfl rfl ?_
  obtain ⟨p1, hp1, h⟩ := bindo h
  refine q_call (dst := some 13) rfl (.func _) Evs.nil (HInv.static rollcalllaw12_awake.at_ rollcalllaw12_awake.body (rollcalllaw12_awake.snd hD hH hp1)) ?_
  rintro _ _ ⟨rfl, rfl⟩
  refine qS 14 rfl (ok_not · (.tmp rfl)) ?_
  refine hr_region_end ?_
  try dsimp only [w0, w1, w2, w3]
  rcases ifc h with ⟨hc2, h⟩ | ⟨hc2, h⟩
  · refine q_cond_t rfl (.tmp rfl) hc2 ?_
    refine q_seq rfl ?_
    refine q_region rfl rfl ?_
    refine qS 6 rfl (ok_assign · (.bool _)) ?_
    refine hr_region_end ?_
    try dsimp only [w0, w1, w2, w3]
    cases h
    exact q_ret rfl at_.at_ rfl (res1 rfl rfl) ⟨rfl, rfl⟩
  · refine q_cond_f rfl (.tmp rfl) (bfalse hc2) ?_
    refine q_skipc rfl ?_
    refine q_seq rfl ?_
    refine q_seq rfl ?_
    refine q_region rfl rfl ?_
    refine qS 15 rfl (ok_move · (.tmp rfl)) ?_
    refine qS 16 rfl (ok_len_str · rfl tu9 (.tmp rfl)) ?_
    refine qS 17 rfl (ok_ibin · (.tmp rfl) (.int _ _) rfl) ?_
    refine qS 18 rfl (ok_move · (.tmp rfl)) ?_
    try dsimp only [w0, w1, w2, w3]
    rcases ifc h with ⟨hc3, h⟩ | ⟨hc3, h⟩
    · refine q_skip (dst := some 19) (t := 18) rfl rfl rfl (decide_eq_true hc3) ?_
      refine q_skip (dst := some 20) (t := 18) rfl rfl rfl (decide_eq_true hc3) ?_
      refine q_skip (dst := some 21) (t := 18) rfl rfl rfl (decide_eq_true hc3) ?_
      refine qS 22 rfl (ok_pick_tt · (.tmp rfl) (decide_eq_true hc3) (.bool _)) ?_
      refine hr_region_end ?_
      try dsimp only [w0, w1, w2, w3]
      try dsimp only [w0, w1, w2, w3]
      exact J0_snd hD hH h
    · refine qG 18 19 rfl (decide_eq_false hc3) (ok_move · (.tmp rfl)) ?_
      refine qG 18 20 rfl (decide_eq_false hc3) (ok_len_str · rfl tu9 (.tmp rfl)) ?_
      refine qG 18 21 rfl (decide_eq_false hc3) (ok_ibin · (.tmp rfl) (.int _ _) rfl) ?_
      refine qS 22 rfl (ok_pick_ff · (.tmp rfl) (decide_eq_false hc3) (.tmp rfl)) ?_
      refine hr_region_end ?_
      try dsimp only [w0, w1, w2, w3]
      try dsimp only [w0, w1, w2, w3]
      exact J0_snd hD hH h
end
end rollcalllaw12_CapsTwo
section
variable {base : Nat} {W0 : World} {β0 : Bt}
def call_20 (D : Dp) (H : Hd) (k : Nat) (vs : List HV) (S : HS) : Option (HV × HS) :=
  Option.bind (args1 vs) fun a =>
  Option.bind (dF a) fun p0 =>
  Option.bind (caps_All_1.f D H p0 S) fun q =>
  some (.tup [], q.2)
theorem call_20_snd {D : Dp} {H : Hd} {k : Nat} (hD : DSound Tryd.prog base W0 D) (hH : HSound Tryd.prog base W0 β0 H) {vs : List HV} {S : HS} {p : HV × HS} (h : call_20 D H k vs S = some p) : HCall Tryd.prog base W0 β0 20 vs S (fun v1 S1 => v1 = p.1 ∧ S1 = p.2) := by
  unfold call_20 at h
  obtain ⟨a, ha, h⟩ := bindo h
  obtain ⟨p0, hp0, h⟩ := bindo h
  obtain ⟨q, hq, h⟩ := bindo h
  rw [args1_out ha, dF_out hp0]
  cases h
  exact caps_All_1.snd hD hH hq
def disp (k : Nat) : Nat → Dp
  | 0 => fun _ _ _ _ => none
  | n + 1 => fun H fv vs S => match fv with
    | .fn (.yield l) [] [] => Option.bind (H l) fun r => r vs S
    | .fn (.func f) xs ys => if f = 20 then call_20 (disp k n) H k (xs ++ vs ++ ys) S else none
    | _ => none
theorem disp_func {k n : Nat} {H : Hd} {f : Nat} {xs ys vs : List HV} {S : HS} : disp k (n + 1) H (.fn (.func f) xs ys) vs S = (if f = 20 then call_20 (disp k n) H k (xs ++ vs ++ ys) S else none) := rfl
theorem disp_yield {k n : Nat} {H : Hd} {l : Nat} {vs : List HV} {S : HS} : disp k (n + 1) H (.fn (.yield l) [] []) vs S = Option.bind (H l) fun r => r vs S := rfl
theorem disp_snd {k : Nat} : ∀ n, DSound Tryd.prog base W0 (disp k n) := by
  intro n
  induction n with
  | zero => intro _ _ _ _ _ _ _ _ h; cases h
  | succ n ih =>
    intro β0 H hH fv vs S v S' h
    unfold disp at h
    split at h
    · obtain ⟨r, hr, h⟩ := bindo h
      exact hH _ _ hr _ _ _ _ h
    · skip
      rcases ifc h with ⟨hf, h⟩ | ⟨hf, h⟩
      · subst hf; exact HInv.func caps_All_1.at_ caps_All_1.body (call_20_snd (k := k) ih hH h)
      cases h
    · cases h
end
end Go.Proofs.YtpomdkjabebmcaaDoor.X
