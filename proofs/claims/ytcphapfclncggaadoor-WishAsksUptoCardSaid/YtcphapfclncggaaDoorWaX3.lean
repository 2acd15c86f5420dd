/- Functions of the program, each as a Lean function over the layer HL: a call answers what the Lean function answers, where it answers. -/
import Derived.Test.YtcphapfclncggaaDoorProg
import Derived.Test.YtcphapfclncggaaDoorWaX2
namespace Go.Proofs.YtcphapfclncggaaDoor.X
open Go.Proofs.YtcphapfclncggaaDoor.HL
set_option linter.unusedVariables false
set_option linter.unusedSimpArgs false
set_option maxRecDepth 20000
set_option maxHeartbeats 4000000
namespace rollcalllaw21_WishAsks
theorem at_ : FnAt Tryd.prog 3 Tryd.f3 := ⟨Tryd.func3, by kernel_rfl⟩
noncomputable def d0 := (Tryd.f3.body).getD .skip
noncomputable def r1 := kR (kA d0)
noncomputable def r4 := kR (kA (kA (kB d0)))
noncomputable def r7 := kR (kA (kA (kB (kA (kB d0)))))
noncomputable def r12 := kR (kA (kA (kB (kB d0))))
noncomputable def r15 := kR (kA (kA (kB (kA (kB (kB d0))))))
noncomputable def d18 := kB (kB (kB d0))
noncomputable def r20 := kR (kA (kA d18))
noncomputable def d22 := kA (kB (kA d18))
noncomputable def r25 := kR (kA (kA (kA d22)))
noncomputable def r32 := kR (kA (kA (kA (kB (kA d22)))))
noncomputable def r35 := kR (kA (kA (kB (kA (kA (kB (kA d22)))))))
noncomputable def r38 := kR (kB (kB (kA d22)))
noncomputable def r40 := kR (kA (kB d18))
noncomputable def r42 := kR (kA (kB (kB d18)))
noncomputable def d43 := kB (kB (kB d18))
noncomputable def r44 := kR (kA d43)
noncomputable def r47 := kR (kA (kA (kB d43)))
noncomputable def r50 := kR (kA (kA (kB (kA (kB d43)))))
noncomputable def d54 := kA (kB (kB d43))
noncomputable def r55 := kR (kA d54)
noncomputable def d58 := kA (kA (kB d54))
noncomputable def r60 := kR (kA (kA d58))
noncomputable def r67 := kR (kA (kA (kA (kB d58))))
noncomputable def r70 := kR (kA (kA (kB (kA (kA (kB d58))))))
noncomputable def r73 := kR (kB (kB d58))
noncomputable def r75 := kR (kA (kB (kB (kB d43))))
noncomputable def c74 : Code := .seq (.region 20 r75 false) .ret
noncomputable def c58 : Code := .seq (.seq (.region 16 r60 false) (.cond (.tmp 61) .skip (.exit 2))) (.seq (.block 3 (.seq (.region 18 r67 true) (.cond (.tmp 72) (.seq (.region 19 r70 false) .ret) .skip))) (.region 17 r73 false))
noncomputable def c53 : Code := .seq (.seq (.region 15 r55 false) (.block 2 (.loop c58))) c74
noncomputable def c48 : Code := .cond (.tmp 57) (.seq (.region 14 r50 false) .ret) .skip
noncomputable def c39 : Code := .seq (.region 10 r40 false) (.seq (.region 11 r42 false) (.seq (.region 12 r44 false) (.seq (.seq (.region 13 r47 false) c48) c53)))
noncomputable def c23 : Code := .seq (.seq (.region 6 r25 false) (.cond (.tmp 19) .skip (.exit 0))) (.seq (.block 1 (.seq (.region 8 r32 false) (.cond (.tmp 27) (.seq (.region 9 r35 false) .ret) .skip))) (.region 7 r38 false))
noncomputable def c0 : Code := .seq (.region 0 r1 false) (.seq (.seq (.region 1 r4 false) (.cond (.tmp 12) (.seq (.region 2 r7 false) .ret) .skip)) (.seq (.seq (.region 3 r12 false) (.cond (.tmp 15) (.seq (.region 4 r15 false) .ret) .skip)) (.seq (.seq (.region 5 r20 false) (.block 0 (.loop c23))) c39)))
theorem body : Tryd.f3.body = some c0 := by kernel_rfl
section
variable {base : Nat} {W0 : World} {β0 : Bt}
def L3 (k : Nat) : Nat → Sl → Sl → Int → HS → Option ((Bool) × HS)
  | 0, _, _, _, _ => none
  | n + 1, y8, y9, y10, S =>
    (if y10 < (Sl.len y9 : Int) then
    (Option.bind (HS.idx S y8 y10 2) fun p16 =>
    (Option.bind (HS.ldI S .u8 (HA.fld p16 0)) fun p17 =>
    (Option.bind (HS.ldS S (HA.fld p16 1)) fun p18 =>
    (Option.bind (HS.idx S y9 y10 2) fun p19 =>
    (Option.bind (HS.ldI S .u8 (HA.fld p19 0)) fun p20 =>
    (Option.bind (HS.ldS S (HA.fld p19 1)) fun p21 =>
    (Option.bind (kSames [(.int .u8 p17), (.str p18)] [(.int .u8 p20), (.str p21)]) fun p22 =>
    (if (!p22) = true then
    some (false, S) else
    (L3 k n) y8 y9 (w64 (y10 + 1)) S)))))))) else
    some (true, S))
theorem L3_snd {k : Nat}  : ∀ {n : Nat} ⦃y8 : Sl⦄ ⦃y9 : Sl⦄ ⦃y10 : Int⦄ ⦃S : HS⦄ ⦃p : (Bool) × HS⦄ ⦃g0 g1 g2 g3 g4 g5 g6 g7 g11 g12 g13 g14 g15 g16 g17 g18 g19 g20 g21 g22 g23 g24 g25 g26 g27 g28 g29 g30 g31 g32 g33 g34 g35 g36 g37 g38 g39 g40 g41 g42 g43 g44 g45 g46 g47 g48 g49 g50 g51 g52 g53 g54 g55 g56 g57 g58 g59 g60 g61 g62 g63 g64 g65 g66 g67 g68 g69 g70 g71 g72 : HV⦄, L3 k n y8 y9 y10 S = some p → HRun Tryd.prog base W0 β0 3 none [.inLoop c58, .inBlock 2, .code c74] ⟨[g0, g1, g2, g3, g4, g5, g6, g7, (Sl.hv y8), (Sl.hv y9), (.int .i64 y10), g11, g12, g13, g14, g15, g16, g17, g18, g19, g20, g21, g22, g23, g24, g25, g26, g27, g28, g29, g30, g31, g32, g33, g34, g35, g36, g37, g38, g39, g40, g41, g42, g43, g44, g45, g46, g47, g48, g49, g50, g51, g52, g53, g54, g55, g56, g57, g58, g59, g60, g61, g62, g63, g64, g65, g66, g67, g68, g69, g70, g71, g72], []⟩ S (fun v S1 => v = (.bool p.1) ∧ S1 = p.2) := by
  intro n
  induction n with
  | zero => intro _ _ _ _ _ _ _ _ _ _ _ _ _ _ _ _ _ _ _ _ _ _ _ _ _ _ _ _ _ _ _ _ _ _ _ _ _ _ _ _ _ _ _ _ _ _ _ _ _ _ _ _ _ _ _ _ _ _ _ _ _ _ _ _ _ _ _ _ _ _ _ _ _ _ _ h; cases h
  | succ n ih =>
    intro y8 y9 y10 S p g0 g1 g2 g3 g4 g5 g6 g7 g11 g12 g13 g14 g15 g16 g17 g18 g19 g20 g21 g22 g23 g24 g25 g26 g27 g28 g29 g30 g31 g32 g33 g34 g35 g36 g37 g38 g39 g40 g41 g42 g43 g44 g45 g46 g47 g48 g49 g50 g51 g52 g53 g54 g55 g56 g57 g58 g59 g60 g61 g62 g63 g64 g65 g66 g67 g68 g69 g70 g71 g72 h
    simp only [L3] at h
    refine hr_inLoop ?_
    refine q_seq rfl ?_
    refine q_seq rfl ?_
    refine q_region rfl rfl ?_
    refine qS 58 rfl (ok_move · (.tmp rfl)) ?_
    refine qS 59 rfl (ok_move · (.tmp rfl)) ?_
    refine qS 60 rfl (ok_len_sl (q := Sl.a y9) (n := Sl.len y9) (z := Sl.cap y9) · rfl tu26 (.tmp rfl)) ?_
    refine qS 61 rfl (ok_ibin · (.tmp rfl) (.tmp rfl) rfl) ?_
    refine hr_region_end ?_
    try dsimp only [w0, w1, w2, w3]
    rcases ifc h with ⟨hc15, h⟩ | ⟨hc15, h⟩
    · refine q_cond_t rfl (.tmp rfl) (decide_eq_true hc15) ?_
      refine q_skipc rfl ?_
      refine q_seq rfl ?_
      refine q_block rfl ?_
      refine q_seq rfl ?_
      refine x_start (cls := [0, 0, 1, 1, 0, 0, 1, 1, 0]) (rk := [0, 1, 2, 3, 4, 5, 6, 7, 8]) rfl (by kernel_rfl) ?_
      refine yf 64 [8] rfl (ok_move · (.tmp rfl)) ?_
      refine yf 65 [10] rfl (ok_move · (.tmp rfl)) ?_
      obtain ⟨p16, hp16, h⟩ := bindo h
      refine yr 66 [64, 65] rfl (ok_indexAddr (s := y8) · tu26 sz30 (.tmp rfl) (.tmp rfl) hp16) ?_
      obtain ⟨p17, hp17, h⟩ := bindo h
      obtain ⟨p18, hp18, h⟩ := bindo h
      refine yr 67 [66] rfl (ok_load_a (vs := [(.int .u8 p17), (.str p18)]) · ia30 (.tmp rfl) rfl ⟨ldI_out hp17, ldS_out hp18, trivial⟩ (by simp)) ?_
      try dsimp only [w0, w1, w2, w3]
      refine yf 68 [9] rfl (ok_move · (.tmp rfl)) ?_
      refine yf 69 [10] rfl (ok_move · (.tmp rfl)) ?_
      obtain ⟨p19, hp19, h⟩ := bindo h
      refine yr 70 [68, 69] rfl (ok_indexAddr (s := y9) · tu26 sz30 (.tmp rfl) (.tmp rfl) hp19) ?_
      obtain ⟨p20, hp20, h⟩ := bindo h
      obtain ⟨p21, hp21, h⟩ := bindo h
      refine yr 71 [70] rfl (ok_load_a (vs := [(.int .u8 p20), (.str p21)]) · ia30 (.tmp rfl) rfl ⟨ldI_out hp20, ldS_out hp21, trivial⟩ (by simp)) ?_
      try dsimp only [w0, w1, w2, w3]
      obtain ⟨p22, hp22, h⟩ := bindo h
      refine yf 72 [67, 71] rfl (ok_agg_eq · sk30 eg30 rfl (.tmp rfl) (.tmp rfl) hp22 (.inr ⟨rfl, rfl⟩)) ?_
      refine x_rest rfl ?_
      refine hr_region_end ?_
      try dsimp only [w0, w1, w2, w3]
      rcases ifc h with ⟨hc23, h⟩ | ⟨hc23, h⟩
      · refine q_cond_t rfl (.tmp rfl) hc23 ?_
        refine q_seq rfl ?_
        refine q_region rfl rfl ?_
        refine qS 2 rfl (ok_assign · (.bool _)) ?_
        refine hr_region_end ?_
        try dsimp only [w0, w1, w2, w3]
        cases h
        exact q_ret rfl at_.at_ rfl (res1 rfl rfl) ⟨rfl, rfl⟩
      · refine q_cond_f rfl (.tmp rfl) (bfalse hc23) ?_
        refine q_skipc rfl ?_
        refine hr_inBlock ?_
        refine q_region rfl rfl ?_
        refine qS 62 rfl (ok_move · (.tmp rfl)) ?_
        refine qS 63 rfl (ok_ibin · (.tmp rfl) (.int _ _) rfl) ?_
        refine qS 10 rfl (ok_assign · (.tmp rfl)) ?_
        refine hr_region_end ?_
        try dsimp only [w0, w1, w2, w3]
        try dsimp only [w0, w1, w2, w3]
        exact ih h
    · refine q_cond_f rfl (.tmp rfl) (decide_eq_false hc15) ?_
      refine q_exit rfl rfl ?_
      refine q_seq rfl ?_
      refine q_region rfl rfl ?_
      refine qS 2 rfl (ok_assign · (.bool _)) ?_
      refine hr_region_end ?_
      try dsimp only [w0, w1, w2, w3]
      cases h
      exact q_ret rfl at_.at_ rfl (res1 rfl rfl) ⟨rfl, rfl⟩
def J2 (k : Nat) (y8 : Sl) (y9 : Sl) (y57 : Bool) (S : HS) : Option ((Bool) × HS) :=
  (if y57 = true then
  some (false, S) else
  L3 k k y8 y9 0 S)
theorem J2_snd {k : Nat}  {y8 : Sl} {y9 : Sl} {y57 : Bool} {S : HS} {p : (Bool) × HS} {g0 g1 g2 g3 g4 g5 g6 g7 g10 g11 g12 g13 g14 g15 g16 g17 g18 g19 g20 g21 g22 g23 g24 g25 g26 g27 g28 g29 g30 g31 g32 g33 g34 g35 g36 g37 g38 g39 g40 g41 g42 g43 g44 g45 g46 g47 g48 g49 g50 g51 g52 g53 g54 g55 g56 g58 g59 g60 g61 g62 g63 g64 g65 g66 g67 g68 g69 g70 g71 g72 : HV} (h : J2 k y8 y9 y57 S = some p) : HRun Tryd.prog base W0 β0 3 none [.code c48, .code c53] ⟨[g0, g1, g2, g3, g4, g5, g6, g7, (Sl.hv y8), (Sl.hv y9), g10, g11, g12, g13, g14, g15, g16, g17, g18, g19, g20, g21, g22, g23, g24, g25, g26, g27, g28, g29, g30, g31, g32, g33, g34, g35, g36, g37, g38, g39, g40, g41, g42, g43, g44, g45, g46, g47, g48, g49, g50, g51, g52, g53, g54, g55, g56, (.bool y57), g58, g59, g60, g61, g62, g63, g64, g65, g66, g67, g68, g69, g70, g71, g72], []⟩ S (fun v S1 => v = (.bool p.1) ∧ S1 = p.2) := by
  unfold J2 at h
  rcases ifc h with ⟨hc14, h⟩ | ⟨hc14, h⟩
  · refine q_cond_t rfl (.tmp rfl) hc14 ?_
    refine q_seq rfl ?_
    refine q_region rfl rfl ?_
    refine qS 2 rfl (ok_assign · (.bool _)) ?_
    refine hr_region_end ?_
    try dsimp only [w0, w1, w2, w3]
    cases h
    exact q_ret rfl at_.at_ rfl (res1 rfl rfl) ⟨rfl, rfl⟩
  · refine q_cond_f rfl (.tmp rfl) (bfalse hc14) ?_
    refine q_skipc rfl ?_
    refine q_seq rfl ?_
    refine q_seq rfl ?_
    refine q_region rfl rfl ?_
    refine qS 10 rfl (ok_assign · (.int _ _)) ?_
    refine hr_region_end ?_
    try dsimp only [w0, w1, w2, w3]
    refine q_block rfl ?_
    refine q_loop rfl ?_
    try dsimp only [w0, w1, w2, w3]
    exact L3_snd  h
def J1 (k : Nat) (y8 : Sl) (y9 : Sl) (y50 : Bool) (S : HS) : Option ((Bool) × HS) :=
  (if y50 = true then
  J2 k y8 y9 true S else
  J2 k y8 y9 (!decide ((Sl.len y8 : Int) = (Sl.len y9 : Int))) S)
theorem J1_snd {k : Nat}  {y8 : Sl} {y9 : Sl} {y50 : Bool} {S : HS} {p : (Bool) × HS} {g0 g1 g2 g3 g4 g5 g6 g7 g10 g11 g12 g13 g14 g15 g16 g17 g18 g19 g20 g21 g22 g23 g24 g25 g26 g27 g28 g29 g30 g31 g32 g33 g34 g35 g36 g37 g38 g39 g40 g41 g42 g43 g44 g45 g46 g47 g48 g49 g51 g52 g53 g54 g55 g56 g57 g58 g59 g60 g61 g62 g63 g64 g65 g66 g67 g68 g69 g70 g71 g72 : HV} (h : J1 k y8 y9 y50 S = some p) : HRun Tryd.prog base W0 β0 3 none [.inRegion r47 [9, 10, 11, 12, 13, 14, 15], .code c48, .code c53] ⟨[g0, g1, g2, g3, g4, g5, g6, g7, (Sl.hv y8), (Sl.hv y9), g10, g11, g12, g13, g14, g15, g16, g17, g18, g19, g20, g21, g22, g23, g24, g25, g26, g27, g28, g29, g30, g31, g32, g33, g34, g35, g36, g37, g38, g39, g40, g41, g42, g43, g44, g45, g46, g47, g48, g49, (.bool y50), g51, g52, g53, g54, g55, g56, g57, g58, g59, g60, g61, g62, g63, g64, g65, g66, g67, g68, g69, g70, g71, g72], []⟩ S (fun v S1 => v = (.bool p.1) ∧ S1 = p.2) := by
  unfold J1 at h
  refine qS 51 rfl (ok_move · (.tmp rfl)) ?_
  rcases ifc h with ⟨hc13, h⟩ | ⟨hc13, h⟩
  · refine q_skip (dst := some 52) (t := 51) rfl rfl rfl hc13 ?_
    refine q_skip (dst := some 53) (t := 51) rfl rfl rfl hc13 ?_
    try dsimp only [w0, w1, w2, w3]
    refine q_skip (dst := some 54) (t := 51) rfl rfl rfl hc13 ?_
    refine q_skip (dst := some 55) (t := 51) rfl rfl rfl hc13 ?_
    refine q_skip (dst := some 56) (t := 51) rfl rfl rfl hc13 ?_
    refine qS 57 rfl (ok_pick_tt · (.tmp rfl) hc13 (.bool _)) ?_
    refine hr_region_end ?_
    try dsimp only [w0, w1, w2, w3]
    try dsimp only [w0, w1, w2, w3]
    exact J2_snd  h
  · refine qG 51 52 rfl (bfalse hc13) (ok_move · (.tmp rfl)) ?_
    refine qG 51 53 rfl (bfalse hc13) (ok_len_sl (q := Sl.a y8) (n := Sl.len y8) (z := Sl.cap y8) · rfl tu26 (.tmp rfl)) ?_
    try dsimp only [w0, w1, w2, w3]
    refine qG 51 54 rfl (bfalse hc13) (ok_move · (.tmp rfl)) ?_
    refine qG 51 55 rfl (bfalse hc13) (ok_len_sl (q := Sl.a y9) (n := Sl.len y9) (z := Sl.cap y9) · rfl tu26 (.tmp rfl)) ?_
    refine qG 51 56 rfl (bfalse hc13) (ok_ibin · (.tmp rfl) (.tmp rfl) rfl) ?_
    refine qS 57 rfl (ok_pick_ff · (.tmp rfl) (bfalse hc13) (.tmp rfl)) ?_
    refine hr_region_end ?_
    try dsimp only [w0, w1, w2, w3]
    try dsimp only [w0, w1, w2, w3]
    exact J2_snd  h
def L0 (k : Nat) : Nat → Sl → Int → HS → Option ((Bool) × HS)
  | 0, _, _, _ => none
  | n + 1, y0, y3, S =>
    (if y3 < (Sl.len y0 : Int) then
    (Option.bind (HS.idx S y0 y3 1) fun p5 =>
    (Option.bind (HS.ldS S p5) fun p6 =>
    (if (List.length p6 : Int) > 100 then
    some (true, S) else
    (L0 k n) y0 (w64 (y3 + 1)) S))) else
    (Option.bind (wish_Monitor.f k y0 S) fun p8 =>
    (Option.bind (rollcallref21_Monitor.f k y0 p8.2) fun p9 =>
    (Option.bind (wish_Watch.f k y0 p9.2) fun p10 =>
    (Option.bind (rollcallref21_Watch.f k y0 p10.2) fun p11 =>
    (if (!decide (p8.1.1 = p9.1.1)) = true then
    J1 k p10.1 p11.1 true p11.2 else
    (Option.bind (rollcallref01_Texts.f k p8.1.2 p9.1.2 p11.2) fun p24 =>
    J1 k p10.1 p11.1 (!p24.1) p24.2)))))))
theorem L0_snd {k : Nat}  : ∀ {n : Nat} ⦃y0 : Sl⦄ ⦃y3 : Int⦄ ⦃S : HS⦄ ⦃p : (Bool) × HS⦄ ⦃g1 g2 g4 g5 g6 g7 g8 g9 g10 g11 g12 g13 g14 g15 g16 g17 g18 g19 g20 g21 g22 g23 g24 g25 g26 g27 g28 g29 g30 g31 g32 g33 g34 g35 g36 g37 g38 g39 g40 g41 g42 g43 g44 g45 g46 g47 g48 g49 g50 g51 g52 g53 g54 g55 g56 g57 g58 g59 g60 g61 g62 g63 g64 g65 g66 g67 g68 g69 g70 g71 g72 : HV⦄, L0 k n y0 y3 S = some p → HRun Tryd.prog base W0 β0 3 none [.inLoop c23, .inBlock 0, .code c39] ⟨[(Sl.hv y0), g1, g2, (.int .i64 y3), g4, g5, g6, g7, g8, g9, g10, g11, g12, g13, g14, g15, g16, g17, g18, g19, g20, g21, g22, g23, g24, g25, g26, g27, g28, g29, g30, g31, g32, g33, g34, g35, g36, g37, g38, g39, g40, g41, g42, g43, g44, g45, g46, g47, g48, g49, g50, g51, g52, g53, g54, g55, g56, g57, g58, g59, g60, g61, g62, g63, g64, g65, g66, g67, g68, g69, g70, g71, g72], []⟩ S (fun v S1 => v = (.bool p.1) ∧ S1 = p.2) := by
  intro n
  induction n with
  | zero => intro _ _ _ _ _ _ _ _ _ _ _ _ _ _ _ _ _ _ _ _ _ _ _ _ _ _ _ _ _ _ _ _ _ _ _ _ _ _ _ _ _ _ _ _ _ _ _ _ _ _ _ _ _ _ _ _ _ _ _ _ _ _ _ _ _ _ _ _ _ _ _ _ _ _ _ h; cases h
  | succ n ih =>
    intro y0 y3 S p g1 g2 g4 g5 g6 g7 g8 g9 g10 g11 g12 g13 g14 g15 g16 g17 g18 g19 g20 g21 g22 g23 g24 g25 g26 g27 g28 g29 g30 g31 g32 g33 g34 g35 g36 g37 g38 g39 g40 g41 g42 g43 g44 g45 g46 g47 g48 g49 g50 g51 g52 g53 g54 g55 g56 g57 g58 g59 g60 g61 g62 g63 g64 g65 g66 g67 g68 g69 g70 g71 g72 h
    simp only [L0] at h
    refine hr_inLoop ?_
    refine q_seq rfl ?_
    refine q_seq rfl ?_
    refine q_region rfl rfl ?_
    refine qS 16 rfl (ok_move · (.tmp rfl)) ?_
    refine qS 17 rfl (ok_move · (.tmp rfl)) ?_
    refine qS 18 rfl (ok_len_sl (q := Sl.a y0) (n := Sl.len y0) (z := Sl.cap y0) · rfl tu22 (.tmp rfl)) ?_
    refine qS 19 rfl (ok_ibin · (.tmp rfl) (.tmp rfl) rfl) ?_
    refine hr_region_end ?_
    try dsimp only [w0, w1, w2, w3]
    rcases ifc h with ⟨hc4, h⟩ | ⟨hc4, h⟩
    · refine q_cond_t rfl (.tmp rfl) (decide_eq_true hc4) ?_
      refine q_skipc rfl ?_
      refine q_seq rfl ?_
      refine q_block rfl ?_
      refine q_seq rfl ?_
      refine q_region rfl rfl ?_
      refine qS 22 rfl (ok_move · (.tmp rfl)) ?_
      refine qS 23 rfl (ok_move · (.tmp rfl)) ?_
      obtain ⟨p5, hp5, h⟩ := bindo h
      refine qS 24 rfl (ok_indexAddr (s := y0) · tu22 sz9 (.tmp rfl) (.tmp rfl) hp5) ?_
      obtain ⟨p6, hp6, h⟩ := bindo h
      refine qS 25 rfl (ok_load_s · sc9 (.tmp rfl) rfl (ldS_out hp6)) ?_
      try dsimp only [w0, w1, w2, w3]
      refine qS 26 rfl (ok_len_str · rfl tu9 (.tmp rfl)) ?_
      refine qS 27 rfl (ok_ibin · (.tmp rfl) (.int _ _) rfl) ?_
      refine hr_region_end ?_
      try dsimp only [w0, w1, w2, w3]
      rcases ifc h with ⟨hc7, h⟩ | ⟨hc7, h⟩
      · refine q_cond_t rfl (.tmp rfl) (decide_eq_true hc7) ?_
        refine q_seq rfl ?_
        refine q_region rfl rfl ?_
        refine qS 2 rfl (ok_assign · (.bool _)) ?_
        refine hr_region_end ?_
        try dsimp only [w0, w1, w2, w3]
        cases h
        exact q_ret rfl at_.at_ rfl (res1 rfl rfl) ⟨rfl, rfl⟩
      · refine q_cond_f rfl (.tmp rfl) (decide_eq_false hc7) ?_
        refine q_skipc rfl ?_
        refine hr_inBlock ?_
        refine q_region rfl rfl ?_
        refine qS 20 rfl (ok_move · (.tmp rfl)) ?_
        refine qS 21 rfl (ok_ibin · (.tmp rfl) (.int _ _) rfl) ?_
        refine qS 3 rfl (ok_assign · (.tmp rfl)) ?_
        refine hr_region_end ?_
        try dsimp only [w0, w1, w2, w3]
        try dsimp only [w0, w1, w2, w3]
        exact ih h
    · refine q_cond_f rfl (.tmp rfl) (decide_eq_false hc4) ?_
      refine q_exit rfl rfl ?_
      refine q_seq rfl ?_
      refine q_region rfl rfl ?_
      refine qS 29 rfl (ok_move · (.tmp rfl)) ?_
      obtain ⟨p8, hp8, h⟩ := bindo h
      refine q_call (dst := some 30) rfl (.func _) (.cons (.tmp rfl) Evs.nil) (HInv.static wish_Monitor.at_ wish_Monitor.body (wish_Monitor.snd  hp8)) ?_
      rintro _ _ ⟨rfl, rfl⟩
      refine qS 28 rfl (ok_move · (.tmp rfl)) ?_
      refine qS 31 rfl (ok_extract · (.tmp rfl) rfl) ?_
      try dsimp only [w0, w1, w2, w3]
      refine qS 32 rfl (ok_extract · (.tmp rfl) rfl) ?_
      refine qS 4 rfl (ok_assign · (.tmp rfl)) ?_
      refine qS 5 rfl (ok_assign · (.tmp rfl)) ?_
      refine hr_region_end ?_
      try dsimp only [w0, w1, w2, w3]
      refine q_seq rfl ?_
      refine q_region rfl rfl ?_
      refine qS 34 rfl (ok_move · (.tmp rfl)) ?_
      obtain ⟨p9, hp9, h⟩ := bindo h
      refine q_call (dst := some 35) rfl (.func _) (.cons (.tmp rfl) Evs.nil) (HInv.static rollcallref21_Monitor.at_ rollcallref21_Monitor.body (rollcallref21_Monitor.snd  hp9)) ?_
      rintro _ _ ⟨rfl, rfl⟩
      refine qS 33 rfl (ok_move · (.tmp rfl)) ?_
      refine qS 36 rfl (ok_extract · (.tmp rfl) rfl) ?_
      try dsimp only [w0, w1, w2, w3]
      refine qS 37 rfl (ok_extract · (.tmp rfl) rfl) ?_
      refine qS 6 rfl (ok_assign · (.tmp rfl)) ?_
      refine qS 7 rfl (ok_assign · (.tmp rfl)) ?_
      refine hr_region_end ?_
      try dsimp only [w0, w1, w2, w3]
      refine q_seq rfl ?_
      refine q_region rfl rfl ?_
      refine qS 38 rfl (ok_move · (.tmp rfl)) ?_
      obtain ⟨p10, hp10, h⟩ := bindo h
      refine q_call (dst := some 39) rfl (.func _) (.cons (.tmp rfl) Evs.nil) (HInv.static wish_Watch.at_ wish_Watch.body (wish_Watch.snd  hp10)) ?_
      rintro _ _ ⟨rfl, rfl⟩
      refine qS 40 rfl (ok_move · (.tmp rfl)) ?_
      obtain ⟨p11, hp11, h⟩ := bindo h
      refine q_call (dst := some 41) rfl (.func _) (.cons (.tmp rfl) Evs.nil) (HInv.static rollcallref21_Watch.at_ rollcallref21_Watch.body (rollcallref21_Watch.snd  hp11)) ?_
      rintro _ _ ⟨rfl, rfl⟩
      try dsimp only [w0, w1, w2, w3]
      refine qS 8 rfl (ok_assign · (.tmp rfl)) ?_
      refine qS 9 rfl (ok_assign · (.tmp rfl)) ?_
      refine hr_region_end ?_
      try dsimp only [w0, w1, w2, w3]
      refine q_seq rfl ?_
      refine q_seq rfl ?_
      refine q_region rfl rfl ?_
      refine qS 42 rfl (ok_move · (.tmp rfl)) ?_
      refine qS 43 rfl (ok_move · (.tmp rfl)) ?_
      refine qS 44 rfl (ok_ibin · (.tmp rfl) (.tmp rfl) rfl) ?_
      refine qS 45 rfl (ok_move · (.tmp rfl)) ?_
      try dsimp only [w0, w1, w2, w3]
      rcases ifc h with ⟨hc12, h⟩ | ⟨hc12, h⟩
      · refine q_skip (dst := some 46) (t := 45) rfl rfl rfl hc12 ?_
        refine q_skip (dst := some 47) (t := 45) rfl rfl rfl hc12 ?_
        refine q_skip (dst := some 48) (t := 45) rfl rfl rfl hc12 ?_
        refine q_skip (dst := some 49) (t := 45) rfl rfl rfl hc12 ?_
        try dsimp only [w0, w1, w2, w3]
        refine qS 50 rfl (ok_pick_tt · (.tmp rfl) hc12 (.bool _)) ?_
        try dsimp only [w0, w1, w2, w3]
        exact J1_snd  h
      · refine qG 45 46 rfl (bfalse hc12) (ok_move · (.tmp rfl)) ?_
        refine qG 45 47 rfl (bfalse hc12) (ok_move · (.tmp rfl)) ?_
        obtain ⟨p24, hp24, h⟩ := bindo h
        refine q_call_g (t := 45) (dst := some 48) rfl rfl rfl (bfalse hc12) (.func _) (.cons (.tmp rfl) (.cons (.tmp rfl) Evs.nil)) (HInv.static rollcallref01_Texts.at_ rollcallref01_Texts.body (rollcallref01_Texts.snd  hp24)) ?_
        rintro _ _ ⟨rfl, rfl⟩
        refine qG 45 49 rfl (bfalse hc12) (ok_not · (.tmp rfl)) ?_
        try dsimp only [w0, w1, w2, w3]
        refine qS 50 rfl (ok_pick_ff · (.tmp rfl) (bfalse hc12) (.tmp rfl)) ?_
        try dsimp only [w0, w1, w2, w3]
        exact J1_snd  h
def f (k : Nat) (x0 : Sl) (S : HS) : Option ((Bool) × HS) :=
  (Option.bind (rollcalllaw21_awake.f k S) fun p1 =>
  (if (!p1.1) = true then
  some (false, p1.2) else
  (if (Sl.len x0 : Int) > 20 then
  some (true, p1.2) else
  L0 k k x0 0 p1.2)))
theorem snd {k : Nat} {x0 : Sl} {S : HS}  {p : (Bool) × HS} (h : f k x0 S = some p) : HCall Tryd.prog base W0 β0 3 [(Sl.hv x0)] S (fun v S1 => v = (.bool p.1) ∧ S1 = p.2) := by
  unfold f at h
  refine HCall.of_run at_.at_ body ?_
  show HRun Tryd.prog base W0 β0 3 none [.code c0] ⟨[(Sl.hv x0), τ, τ, τ, τ, τ, τ, τ, τ, τ, τ, τ, τ, τ, τ, τ, τ, τ, τ, τ, τ, τ, τ, τ, τ, τ, τ, τ, τ, τ, τ, τ, τ, τ, τ, τ, τ, τ, τ, τ, τ, τ, τ, τ, τ, τ, τ, τ, τ, τ, τ, τ, τ, τ, τ, τ, τ, τ, τ, τ, τ, τ, τ, τ, τ, τ, τ, τ, τ, τ, τ, τ, τ], []⟩ S _
  refine q_seq rfl ?_
  refine q_region rfl rfl ?_
  refine qS 2 rfl (ok_assign · (.bool _)) ?_
  refine hr_region_end ?_
  try dsimp only [w0, w1, w2, w3]
  refine q_seq rfl ?_
  refine q_seq rfl ?_
  refine q_region rfl rfl ?_
  obtain ⟨p1, hp1, h⟩ := bindo h
  refine q_call (dst := some 11) rfl (.func _) Evs.nil (HInv.static rollcalllaw21_awake.at_ rollcalllaw21_awake.body (rollcalllaw21_awake.snd  hp1)) ?_
  rintro _ _ ⟨rfl, rfl⟩
  refine qS 12 rfl (ok_not · (.tmp rfl)) ?_
  refine hr_region_end ?_
  try dsimp only [w0, w1, w2, w3]
  rcases ifc h with ⟨hc2, h⟩ | ⟨hc2, h⟩
  · refine q_cond_t rfl (.tmp rfl) hc2 ?_
    refine q_seq rfl ?_
    refine q_region rfl rfl ?_
    refine qS 2 rfl (ok_assign · (.bool _)) ?_
    refine hr_region_end ?_
    try dsimp only [w0, w1, w2, w3]
    cases h
    exact q_ret rfl at_.at_ rfl (res1 rfl rfl) ⟨rfl, rfl⟩
  · refine q_cond_f rfl (.tmp rfl) (bfalse hc2) ?_
    refine q_skipc rfl ?_
    refine q_seq rfl ?_
    refine q_seq rfl ?_
    refine q_region rfl rfl ?_
    refine qS 13 rfl (ok_move · (.tmp rfl)) ?_
    refine qS 14 rfl (ok_len_sl (q := Sl.a x0) (n := Sl.len x0) (z := Sl.cap x0) · rfl tu22 (.tmp rfl)) ?_
    refine qS 15 rfl (ok_ibin · (.tmp rfl) (.int _ _) rfl) ?_
    refine hr_region_end ?_
    try dsimp only [w0, w1, w2, w3]
    rcases ifc h with ⟨hc3, h⟩ | ⟨hc3, h⟩
    · refine q_cond_t rfl (.tmp rfl) (decide_eq_true hc3) ?_
      refine q_seq rfl ?_
      refine q_region rfl rfl ?_
      refine qS 2 rfl (ok_assign · (.bool _)) ?_
      refine hr_region_end ?_
      try dsimp only [w0, w1, w2, w3]
      cases h
      exact q_ret rfl at_.at_ rfl (res1 rfl rfl) ⟨rfl, rfl⟩
    · refine q_cond_f rfl (.tmp rfl) (decide_eq_false hc3) ?_
      refine q_skipc rfl ?_
      refine q_seq rfl ?_
      refine q_seq rfl ?_
      refine q_region rfl rfl ?_
      refine qS 3 rfl (ok_assign · (.int _ _)) ?_
      refine hr_region_end ?_
      try dsimp only [w0, w1, w2, w3]
      refine q_block rfl ?_
      refine q_loop rfl ?_
      try dsimp only [w0, w1, w2, w3]
      exact L0_snd  h
end
end rollcalllaw21_WishAsks
end Go.Proofs.YtcphapfclncggaaDoor.X
