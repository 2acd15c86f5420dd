/- Functions of the program, each as a Lean function over the layer HL: a call answers what the Lean function answers, where it answers. -/
import Derived.Test.YtpomdkjabebmcaaDoorProg
import Derived.Test.YtpomdkjabebmcaaDoorCtX
namespace Go.Proofs.YtpomdkjabebmcaaDoor.X
open Go.Proofs.YtpomdkjabebmcaaDoor.HL
set_option linter.unusedVariables false
set_option linter.unusedSimpArgs false
set_option maxRecDepth 20000
set_option maxHeartbeats 4000000
namespace rollcalllaw12_CapsTexts
theorem at_ : FnAt Tryd.prog 5 Tryd.f5 := ⟨Tryd.func5, by kernel_rfl⟩
noncomputable def d0 := (Tryd.f5.body).getD .skip
noncomputable def r1 := kR (kA d0)
noncomputable def r4 := kR (kA (kA (kB d0)))
noncomputable def r7 := kR (kA (kA (kB (kA (kB d0)))))
noncomputable def r12 := kR (kA (kA (kB (kB d0))))
noncomputable def r15 := kR (kA (kA (kB (kA (kB (kB d0))))))
noncomputable def d18 := kB (kB (kB d0))
noncomputable def r19 := kR (kA d18)
noncomputable def r21 := kR (kA (kB d18))
noncomputable def r23 := kR (kA (kB (kB d18)))
noncomputable def d24 := kB (kB (kB d18))
noncomputable def r26 := kR (kA (kA d24))
noncomputable def r29 := kR (kA (kA (kB (kA d24))))
noncomputable def r33 := kR (kA (kB d24))
noncomputable def r36 := kR (kA (kA (kB (kB d24))))
noncomputable def r39 := kR (kA (kA (kB (kA (kB (kB d24))))))
noncomputable def d42 := kB (kB (kB d24))
noncomputable def r44 := kR (kA (kA d42))
noncomputable def d46 := kA (kB (kA d42))
noncomputable def r48 := kR (kA (kA d46))
noncomputable def r49 := kR (kB (kA d46))
noncomputable def r53 := kR (kA (kA (kA (kB d46))))
noncomputable def r56 := kR (kA (kA (kB (kA (kA (kB d46))))))
noncomputable def r59 := kR (kB (kA (kB d46)))
noncomputable def r61 := kR (kA (kB d42))
noncomputable def c62 : Code := .ret
noncomputable def c59 : Code := .region 18 r59 false
noncomputable def c54 : Code := .cond (.tmp 76) (.seq (.region 17 r56 false) .ret) .skip
noncomputable def c50 : Code := .block 1 (.seq (.seq (.region 16 r53 true) c54) c59)
noncomputable def c47 : Code := .seq (.region 14 r48 false) (.region 15 r49 false)
noncomputable def c32 : Code := .seq (.region 10 r33 false) (.seq (.seq (.region 11 r36 false) (.cond (.tmp 49) (.seq (.region 12 r39 false) .ret) .skip)) (.seq (.seq (.region 13 r44 false) (.block 0 (.rangeFunc (.tmp 50) #[51, 52] c47 c50))) (.seq (.region 19 r61 false) c62)))
noncomputable def c27 : Code := .cond (.tmp 46) (.seq (.region 9 r29 false) .ret) .skip
noncomputable def c0 : Code := .seq (.region 0 r1 false) (.seq (.seq (.region 1 r4 false) (.cond (.tmp 14) (.seq (.region 2 r7 false) .ret) .skip)) (.seq (.seq (.region 3 r12 false) (.cond (.tmp 17) (.seq (.region 4 r15 false) .ret) .skip)) (.seq (.region 5 r19 false) (.seq (.region 6 r21 false) (.seq (.region 7 r23 false) (.seq (.seq (.region 8 r26 false) c27) c32))))))
theorem body : Tryd.f5.body = some c0 := by kernel_rfl
section
variable {base : Nat} {W0 : World} {β0 : Bt}
def J4 (D : Dp) (H : Hd) (k : Nat) (l : Nat) (y4 : (Option HA)) (y9 : (Option HA)) (y12 : Int) (y76 : Bool) (S : HS) : Option (HV × HS) :=
  (if y76 = true then
  (Option.bind (y4) fun p41 =>
  (Option.bind (HS.sets S p41 [(.bool false)]) fun p42 =>
  (HS.endr p42 l (some .ret)))) else
  (Option.bind (y9) fun p43 =>
  (Option.bind (HS.ldI S .i64 p43) fun p44 =>
  (Option.bind (y9) fun p45 =>
  (Option.bind (HS.sets S p45 [(.int .i64 (w64 (p44 + y12)))]) fun p46 =>
  (HS.endr p46 l none))))))
theorem J4_snd {D : Dp} {H : Hd} {k : Nat} {l : Nat} (hD : DSound Tryd.prog base W0 D) (hH : HSound Tryd.prog base W0 β0 H)  {y4 : (Option HA)} {y9 : (Option HA)} {y12 : Int} {y76 : Bool} {S : HS} {p : HV × HS} {g0 g1 g2 g3 g5 g6 g7 g8 g10 g11 g13 g14 g15 g16 g17 g18 g19 g20 g21 g22 g23 g24 g25 g26 g27 g28 g29 g30 g31 g32 g33 g34 g35 g36 g37 g38 g39 g40 g41 g42 g43 g44 g45 g46 g47 g48 g49 g50 g51 g52 g53 g54 g55 g56 g57 g58 g59 g60 g61 g62 g63 g64 g65 g66 g67 g68 g69 g70 g71 g72 g73 g74 g75 g77 g78 g79 g80 g81 g82 g83 g84 g85 g86 g87 g88 g89 g90 g91 g92 g93 g94 g95 g96 : HV} (h : J4 D H k l y4 y9 y12 y76 S = some p) : HRun Tryd.prog base W0 β0 5 (some l) [.code c54, .code c59, .inBlock 1] ⟨[g0, g1, g2, g3, (.ptr y4), g5, g6, g7, g8, (.ptr y9), g10, g11, (.int .i64 y12), g13, g14, g15, g16, g17, g18, g19, g20, g21, g22, g23, g24, g25, g26, g27, g28, g29, g30, g31, g32, g33, g34, g35, g36, g37, g38, g39, g40, g41, g42, g43, g44, g45, g46, g47, g48, g49, g50, g51, g52, g53, g54, g55, g56, g57, g58, g59, g60, g61, g62, g63, g64, g65, g66, g67, g68, g69, g70, g71, g72, g73, g74, g75, (.bool y76), g77, g78, g79, g80, g81, g82, g83, g84, g85, g86, g87, g88, g89, g90, g91, g92, g93, g94, g95, g96], []⟩ S (fun v S1 => v = p.1 ∧ S1 = p.2) := by
  unfold J4 at h
  rcases ifc h with ⟨hc40, h⟩ | ⟨hc40, h⟩
  · refine q_cond_t rfl (.tmp rfl) hc40 ?_
    refine q_seq rfl ?_
    refine q_region rfl rfl ?_
    obtain ⟨p41, hp41, h⟩ := bindo h
    obtain ⟨p42, hp42, h⟩ := bindo h
    refine qN rfl (ok_store_s (v := (.bool false)) · sz4 (.tmp rfl) hp41 (.bool _) rfl hp42) ?_
    refine hr_region_end ?_
    try dsimp only [w0, w1, w2, w3]
    exact q_round_ret rfl h ⟨rfl, rfl⟩
  · refine q_cond_f rfl (.tmp rfl) (bfalse hc40) ?_
    refine q_skipc rfl ?_
    refine q_region rfl rfl ?_
    obtain ⟨p43, hp43, h⟩ := bindo h
    obtain ⟨p44, hp44, h⟩ := bindo h
    refine qS 77 rfl (ok_load_s · sc3 (.tmp rfl) hp43 (ldI_out hp44)) ?_
    refine qS 78 rfl (ok_move · (.tmp rfl)) ?_
    refine qS 79 rfl (ok_ibin · (.tmp rfl) (.tmp rfl) rfl) ?_
    obtain ⟨p45, hp45, h⟩ := bindo h
    obtain ⟨p46, hp46, h⟩ := bindo h
    refine qN rfl (ok_store_s (v := (.int .i64 (w64 (p44 + y12)))) · sz3 (.tmp rfl) hp45 (.tmp rfl) rfl hp46) ?_
    refine hr_region_end ?_
    try dsimp only [w0, w1, w2, w3]
    refine hr_inBlock ?_
    exact q_round_end h ⟨rfl, rfl⟩
def J3 (D : Dp) (H : Hd) (k : Nat) (l : Nat) (y2 : (Option HA)) (y4 : (Option HA)) (y9 : (Option HA)) (y51 : (List UInt8)) (y52 : Int) (S : HS) : Option (HV × HS) :=
  (Option.bind (HS.begin_ S l) fun p37 =>
  (Option.bind (rollcallref12_Number.f k y51 p37) fun p38 =>
  (if (!decide (p38.1 = y52)) = true then
  J4 D H k l y4 y9 y52 true p38.2 else
  (Option.bind (y9) fun p47 =>
  (Option.bind (HS.ldI p38.2 .i64 p47) fun p48 =>
  (if y52 ≤ p48 then
  J4 D H k l y4 y9 y52 true p38.2 else
  (Option.bind (caps_Has.f D H 7 y52 p38.2) fun p50 =>
  (if (!p50.1) = true then
  J4 D H k l y4 y9 y52 true p50.2 else
  (Option.bind (y2) fun p52 =>
  (Option.bind (HS.ldI p50.2 .i64 p52) fun p53 =>
  (Option.bind (caps_Has.f D H p53 y52 p50.2) fun p54 =>
  (Option.bind (y2) fun p55 =>
  (Option.bind (HS.ldI p54.2 .i64 p55) fun p56 =>
  (Option.bind (HS.ldI p50.2 .i64 p55) fun p57 =>
  (if p57 = p56 then
  J4 D H k l y4 y9 y52 (!(p54.1 == (!decide ((iand .i64 p56 y52) = 0)))) p54.2 else none)))))))))))))))
theorem J3_snd {D : Dp} {H : Hd} {k : Nat} {l : Nat} (hD : DSound Tryd.prog base W0 D) (hH : HSound Tryd.prog base W0 β0 H)  {y2 : (Option HA)} {y4 : (Option HA)} {y9 : (Option HA)} {y51 : (List UInt8)} {y52 : Int} {S : HS} {p : HV × HS} {g0 g1 g3 g5 g6 g7 g8 g10 g11 g12 g13 g14 g15 g16 g17 g18 g19 g20 g21 g22 g23 g24 g25 g26 g27 g28 g29 g30 g31 g32 g33 g34 g35 g36 g37 g38 g39 g40 g41 g42 g43 g44 g45 g46 g47 g48 g49 g50 g53 g54 g55 g56 g57 g58 g59 g60 g61 g62 g63 g64 g65 g66 g67 g68 g69 g70 g71 g72 g73 g74 g75 g76 g77 g78 g79 g80 g81 g82 g83 g84 g85 g86 g87 g88 g89 g90 g91 g92 g93 g94 g95 g96 : HV} (h : J3 D H k l y2 y4 y9 y51 y52 S = some p) : HRun Tryd.prog base W0 β0 5 (some l) [.code c47, .beginRound, .code c50] ⟨[g0, g1, (.ptr y2), g3, (.ptr y4), g5, g6, g7, g8, (.ptr y9), g10, g11, g12, g13, g14, g15, g16, g17, g18, g19, g20, g21, g22, g23, g24, g25, g26, g27, g28, g29, g30, g31, g32, g33, g34, g35, g36, g37, g38, g39, g40, g41, g42, g43, g44, g45, g46, g47, g48, g49, g50, (.str y51), (.int .i64 y52), g53, g54, g55, g56, g57, g58, g59, g60, g61, g62, g63, g64, g65, g66, g67, g68, g69, g70, g71, g72, g73, g74, g75, g76, g77, g78, g79, g80, g81, g82, g83, g84, g85, g86, g87, g88, g89, g90, g91, g92, g93, g94, g95, g96], []⟩ S (fun v S1 => v = p.1 ∧ S1 = p.2) := by
  unfold J3 at h
  refine q_seq rfl ?_
  refine q_region rfl rfl ?_
  refine qS 11 rfl (ok_assign · (.tmp rfl)) ?_
  refine hr_region_end ?_
  try dsimp only [w0, w1, w2, w3]
  refine q_region rfl rfl ?_
  refine qS 12 rfl (ok_assign · (.tmp rfl)) ?_
  refine hr_region_end ?_
  try dsimp only [w0, w1, w2, w3]
  obtain ⟨p37, hp37, h⟩ := bindo h
  refine q_begin hp37 ?_
  refine q_block rfl ?_
  refine q_seq rfl ?_
  refine q_seq rfl ?_
  refine x_start (cls := [0, 2, 0, 0, 0, 0, 1, 0, 0, 0, 0, 2, 0, 0, 0, 1, 0, 2, 3, 0, 0, 0, 0, 0]) (rk := [0, 1, 2, 3, 4, 5, 6, 7, 8, 9, 10, 11, 12, 13, 14, 15, 16, 17, 18, 19, 20, 21, 22, 23]) rfl (by kernel_rfl) ?_
  refine xf 53 [11] rfl (ok_move · (.tmp rfl)) ?_
  obtain ⟨p38, hp38, h⟩ := bindo h
  refine x_goE (e_call (dst := some 54) (ts := [53]) rfl (by kernel_rfl) (.func _) (.cons (.tmp rfl) Evs.nil) (HInv.static rollcallref12_Number.at_ rollcallref12_Number.body (rollcallref12_Number.snd  hp38))) rfl trivial ?_
  refine xf 55 [12] rfl (ok_move · (.tmp rfl)) ?_
  refine xf 56 [54, 55] rfl (ok_ibin · (.tmp rfl) (.tmp rfl) rfl) ?_
  try dsimp only [w0, w1, w2, w3]
  refine xf 57 [56] rfl (ok_move · (.tmp rfl)) ?_
  rcases ifc h with ⟨hc39, h⟩ | ⟨hc39, h⟩
  · refine xfs 58 57 [12, 57] rfl hc39 ?_
    refine xrs 59 57 [9, 57] rfl hc39 ?_
    refine xfs 60 57 [58, 59, 57] rfl hc39 ?_
    try dsimp only [w0, w1, w2, w3]
    refine xf 61 [57, 60] rfl (ok_pick_tt · (.tmp rfl) hc39 (.bool _)) ?_
    refine xf 62 [61] rfl (ok_move · (.tmp rfl)) ?_
    refine xfs 63 62 [12, 62] rfl rfl ?_
    refine zes 64 62 [63, 62] rfl rfl trivial ?_
    try dsimp only [w0, w1, w2, w3]
    refine xfs 65 62 [64, 62] rfl rfl ?_
    refine xf 66 [62, 65] rfl (ok_pick_tt · (.tmp rfl) rfl (.bool _)) ?_
    refine xf 67 [66] rfl (ok_move · (.tmp rfl)) ?_
    refine xrs 68 67 [2, 67] rfl rfl ?_
    try dsimp only [w0, w1, w2, w3]
    refine xfs 69 67 [12, 67] rfl rfl ?_
    refine zes 70 67 [68, 69, 67] rfl rfl trivial ?_
    refine x_late (r_skip (dst := some 71) (t := 67) (ts := [2, 67]) rfl (by kernel_rfl) rfl rfl rfl) rfl ⟨.inr (l_skip (dst := some 71) (t := 67) (ts := [2, 67]) rfl (by kernel_rfl) rfl rfl rfl), .inl (by kernel_rfl), .inl (by kernel_rfl), trivial⟩ ?_
    refine xfs 72 67 [12, 67] rfl rfl ?_
    try dsimp only [w0, w1, w2, w3]
    refine xfs 73 67 [71, 72, 67] rfl rfl ?_
    refine xfs 74 67 [73, 67] rfl rfl ?_
    refine xfs 75 67 [70, 74, 67] rfl rfl ?_
    refine xf 76 [67, 75] rfl (ok_pick_tt · (.tmp rfl) rfl (.bool _)) ?_
    refine x_rest rfl ?_
    refine hr_region_end ?_
    try dsimp only [w0, w1, w2, w3]
    try dsimp only [w0, w1, w2, w3]
    exact J4_snd hD hH h
  · refine xfg 58 57 [12, 57] rfl (bfalse hc39) (ok_move · (.tmp rfl)) ?_
    obtain ⟨p47, hp47, h⟩ := bindo h
    obtain ⟨p48, hp48, h⟩ := bindo h
    refine xrg 59 57 [9, 57] rfl (bfalse hc39) (ok_load_s · sc3 (.tmp rfl) hp47 (ldI_out hp48)) ?_
    refine xfg 60 57 [58, 59, 57] rfl (bfalse hc39) (ok_ibin · (.tmp rfl) (.tmp rfl) rfl) ?_
    try dsimp only [w0, w1, w2, w3]
    refine xf 61 [57, 60] rfl (ok_pick_ff · (.tmp rfl) (bfalse hc39) (.tmp rfl)) ?_
    refine xf 62 [61] rfl (ok_move · (.tmp rfl)) ?_
    rcases ifc h with ⟨hc49, h⟩ | ⟨hc49, h⟩
    · refine xfs 63 62 [12, 62] rfl (decide_eq_true hc49) ?_
      refine zes 64 62 [63, 62] rfl (decide_eq_true hc49) trivial ?_
      try dsimp only [w0, w1, w2, w3]
      refine xfs 65 62 [64, 62] rfl (decide_eq_true hc49) ?_
      refine xf 66 [62, 65] rfl (ok_pick_tt · (.tmp rfl) (decide_eq_true hc49) (.bool _)) ?_
      refine xf 67 [66] rfl (ok_move · (.tmp rfl)) ?_
      refine xrs 68 67 [2, 67] rfl rfl ?_
      try dsimp only [w0, w1, w2, w3]
      refine xfs 69 67 [12, 67] rfl rfl ?_
      refine zes 70 67 [68, 69, 67] rfl rfl trivial ?_
      refine x_late (r_skip (dst := some 71) (t := 67) (ts := [2, 67]) rfl (by kernel_rfl) rfl rfl rfl) rfl ⟨.inr (l_skip (dst := some 71) (t := 67) (ts := [2, 67]) rfl (by kernel_rfl) rfl rfl rfl), .inl (by kernel_rfl), .inl (by kernel_rfl), trivial⟩ ?_
      refine xfs 72 67 [12, 67] rfl rfl ?_
      try dsimp only [w0, w1, w2, w3]
      refine xfs 73 67 [71, 72, 67] rfl rfl ?_
      refine xfs 74 67 [73, 67] rfl rfl ?_
      refine xfs 75 67 [70, 74, 67] rfl rfl ?_
      refine xf 76 [67, 75] rfl (ok_pick_tt · (.tmp rfl) rfl (.bool _)) ?_
      refine x_rest rfl ?_
      refine hr_region_end ?_
      try dsimp only [w0, w1, w2, w3]
      try dsimp only [w0, w1, w2, w3]
      exact J4_snd hD hH h
    · refine xfg 63 62 [12, 62] rfl (decide_eq_false hc49) (ok_move · (.tmp rfl)) ?_
      obtain ⟨p50, hp50, h⟩ := bindo h
      refine x_goE (e_call_g (dst := some 64) (t := 62) (ts := [63, 62]) rfl (by kernel_rfl) rfl rfl (decide_eq_false hc49) (.func _) (.cons (.int _ _) (.cons (.tmp rfl) Evs.nil)) (HInv.static caps_Has.at_ caps_Has.body (caps_Has.snd hD hH hp50))) rfl trivial ?_
      try dsimp only [w0, w1, w2, w3]
      refine xfg 65 62 [64, 62] rfl (decide_eq_false hc49) (ok_not · (.tmp rfl)) ?_
      refine xf 66 [62, 65] rfl (ok_pick_ff · (.tmp rfl) (decide_eq_false hc49) (.tmp rfl)) ?_
      refine xf 67 [66] rfl (ok_move · (.tmp rfl)) ?_
      rcases ifc h with ⟨hc51, h⟩ | ⟨hc51, h⟩
      · refine xrs 68 67 [2, 67] rfl hc51 ?_
        try dsimp only [w0, w1, w2, w3]
        refine xfs 69 67 [12, 67] rfl hc51 ?_
        refine zes 70 67 [68, 69, 67] rfl hc51 trivial ?_
        refine x_late (r_skip (dst := some 71) (t := 67) (ts := [2, 67]) rfl (by kernel_rfl) rfl rfl hc51) rfl ⟨.inr (l_skip (dst := some 71) (t := 67) (ts := [2, 67]) rfl (by kernel_rfl) rfl rfl hc51), .inl (by kernel_rfl), .inl (by kernel_rfl), trivial⟩ ?_
        refine xfs 72 67 [12, 67] rfl hc51 ?_
        try dsimp only [w0, w1, w2, w3]
        refine xfs 73 67 [71, 72, 67] rfl hc51 ?_
        refine xfs 74 67 [73, 67] rfl hc51 ?_
        refine xfs 75 67 [70, 74, 67] rfl hc51 ?_
        refine xf 76 [67, 75] rfl (ok_pick_tt · (.tmp rfl) hc51 (.bool _)) ?_
        refine x_rest rfl ?_
        refine hr_region_end ?_
        try dsimp only [w0, w1, w2, w3]
        try dsimp only [w0, w1, w2, w3]
        exact J4_snd hD hH h
      · obtain ⟨p52, hp52, h⟩ := bindo h
        obtain ⟨p53, hp53, h⟩ := bindo h
        refine xrg 68 67 [2, 67] rfl (bfalse hc51) (ok_load_s · sc3 (.tmp rfl) hp52 (ldI_out hp53)) ?_
        try dsimp only [w0, w1, w2, w3]
        refine xfg 69 67 [12, 67] rfl (bfalse hc51) (ok_move · (.tmp rfl)) ?_
        obtain ⟨p54, hp54, h⟩ := bindo h
        refine x_goE (e_call_g (dst := some 70) (t := 67) (ts := [68, 69, 67]) rfl (by kernel_rfl) rfl rfl (bfalse hc51) (.func _) (.cons (.tmp rfl) (.cons (.tmp rfl) Evs.nil)) (HInv.static caps_Has.at_ caps_Has.body (caps_Has.snd hD hH hp54))) rfl trivial ?_
        obtain ⟨p55, hp55, h⟩ := bindo h
        obtain ⟨p56, hp56, h⟩ := bindo h
        obtain ⟨p57, hp57, h⟩ := bindo h
        obtain ⟨hg58, h⟩ := gd h
        refine x_late (r_op_g (dst := some 71) (t := 67) (ts := [2, 67]) rfl (by intro _ _ h; cases h) (by kernel_rfl) rfl rfl (bfalse hc51) (fun _ ho => ok_load_s ho sc3 (.tmp rfl) hp55 (ldI_out hp56))) rfl ⟨.inr (l_op_g (dst := some 71) (t := 67) (ts := [2, 67]) rfl (by intro _ _ h; cases h) (by kernel_rfl) rfl rfl (bfalse hc51) (fun _ ho => ok_load_s ho sc3 (.tmp rfl) hp55 (ldI_out (hp57.trans (congrArg some hg58))))), .inl (by kernel_rfl), .inl (by kernel_rfl), trivial⟩ ?_
        refine xfg 72 67 [12, 67] rfl (bfalse hc51) (ok_move · (.tmp rfl)) ?_
        try dsimp only [w0, w1, w2, w3]
        refine xfg 73 67 [71, 72, 67] rfl (bfalse hc51) (ok_ibin · (.tmp rfl) (.tmp rfl) rfl) ?_
        refine xfg 74 67 [73, 67] rfl (bfalse hc51) (ok_ibin · (.tmp rfl) (.int _ _) rfl) ?_
        refine xfg 75 67 [70, 74, 67] rfl (bfalse hc51) (ok_beq · tu4 (.inr ⟨rfl, rfl⟩) (.tmp rfl) (.tmp rfl)) ?_
        refine xf 76 [67, 75] rfl (ok_pick_ff · (.tmp rfl) (bfalse hc51) (.tmp rfl)) ?_
        refine x_rest rfl ?_
        refine hr_region_end ?_
        try dsimp only [w0, w1, w2, w3]
        try dsimp only [w0, w1, w2, w3]
        exact J4_snd hD hH h
def J7 (D : Dp) (H : Hd) (k : Nat) (y4 : (Option HA)) (y96 : Bool) (ds : List Nat) (S : HS) : Option ((Bool) × HS) :=
  (Option.bind (y4) fun p80 =>
  (Option.bind (HS.sets S p80 [(.bool y96)]) fun p81 =>
  (Option.bind (HS.leave p81 ds) fun p82 =>
  (Option.bind (y4) fun p83 =>
  (Option.bind (HS.ldB p82 p83) fun p84 =>
  some (p84, p82))))))
theorem J7_snd {D : Dp} {H : Hd} {k : Nat} (hD : DSound Tryd.prog base W0 D) (hH : HSound Tryd.prog base W0 β0 H)  {y4 : (Option HA)} {y96 : Bool} {ds : List Nat} {S : HS} {p : (Bool) × HS} {g0 g1 g2 g3 g5 g6 g7 g8 g9 g10 g11 g12 g13 g14 g15 g16 g17 g18 g19 g20 g21 g22 g23 g24 g25 g26 g27 g28 g29 g30 g31 g32 g33 g34 g35 g36 g37 g38 g39 g40 g41 g42 g43 g44 g45 g46 g47 g48 g49 g50 g51 g52 g53 g54 g55 g56 g57 g58 g59 g60 g61 g62 g63 g64 g65 g66 g67 g68 g69 g70 g71 g72 g73 g74 g75 g76 g77 g78 g79 g80 g81 g82 g83 g84 g85 g86 g87 g88 g89 g90 g91 g92 g93 g94 g95 : HV} (h : J7 D H k y4 y96 ds S = some p) : HRun Tryd.prog base W0 β0 5 none [.inRegion r61 [17], .code c62] ⟨[g0, g1, g2, g3, (.ptr y4), g5, g6, g7, g8, g9, g10, g11, g12, g13, g14, g15, g16, g17, g18, g19, g20, g21, g22, g23, g24, g25, g26, g27, g28, g29, g30, g31, g32, g33, g34, g35, g36, g37, g38, g39, g40, g41, g42, g43, g44, g45, g46, g47, g48, g49, g50, g51, g52, g53, g54, g55, g56, g57, g58, g59, g60, g61, g62, g63, g64, g65, g66, g67, g68, g69, g70, g71, g72, g73, g74, g75, g76, g77, g78, g79, g80, g81, g82, g83, g84, g85, g86, g87, g88, g89, g90, g91, g92, g93, g94, g95, (.bool y96)], ds⟩ S (fun v S1 => v = (.bool p.1) ∧ S1 = p.2) := by
  unfold J7 at h
  obtain ⟨p80, hp80, h⟩ := bindo h
  obtain ⟨p81, hp81, h⟩ := bindo h
  refine qN rfl (ok_store_s (v := (.bool y96)) · sz4 (.tmp rfl) hp80 (.tmp rfl) rfl hp81) ?_
  refine hr_region_end ?_
  try dsimp only [w0, w1, w2, w3]
  obtain ⟨p82, hp82, h⟩ := bindo h
  obtain ⟨p83, hp83, h⟩ := bindo h
  obtain ⟨p84, hp84, h⟩ := bindo h
  cases h
  exact q_ret rfl at_.at_ hp82 (resL1 rfl (.cell rfl hp83 sc4 (ldB_out hp84))) ⟨rfl, rfl⟩
def J6 (D : Dp) (H : Hd) (k : Nat) (y2 : (Option HA)) (y4 : (Option HA)) (y91 : Bool) (ds : List Nat) (S : HS) : Option ((Bool) × HS) :=
  (if y91 = true then
  (Option.bind (y2) fun p77 =>
  (Option.bind (HS.ldI S .i64 p77) fun p78 =>
  (Option.bind (caps_Has.f D H p78 8 S) fun p79 =>
  J7 D H k y4 (!p79.1) ds p79.2))) else
  J7 D H k y4 false ds S)
theorem J6_snd {D : Dp} {H : Hd} {k : Nat} (hD : DSound Tryd.prog base W0 D) (hH : HSound Tryd.prog base W0 β0 H)  {y2 : (Option HA)} {y4 : (Option HA)} {y91 : Bool} {ds : List Nat} {S : HS} {p : (Bool) × HS} {g0 g1 g3 g5 g6 g7 g8 g9 g10 g11 g12 g13 g14 g15 g16 g17 g18 g19 g20 g21 g22 g23 g24 g25 g26 g27 g28 g29 g30 g31 g32 g33 g34 g35 g36 g37 g38 g39 g40 g41 g42 g43 g44 g45 g46 g47 g48 g49 g50 g51 g52 g53 g54 g55 g56 g57 g58 g59 g60 g61 g62 g63 g64 g65 g66 g67 g68 g69 g70 g71 g72 g73 g74 g75 g76 g77 g78 g79 g80 g81 g82 g83 g84 g85 g86 g87 g88 g89 g90 g92 g93 g94 g95 g96 : HV} (h : J6 D H k y2 y4 y91 ds S = some p) : HRun Tryd.prog base W0 β0 5 none [.inRegion r61 [12, 13, 14, 15, 16, 17], .code c62] ⟨[g0, g1, (.ptr y2), g3, (.ptr y4), g5, g6, g7, g8, g9, g10, g11, g12, g13, g14, g15, g16, g17, g18, g19, g20, g21, g22, g23, g24, g25, g26, g27, g28, g29, g30, g31, g32, g33, g34, g35, g36, g37, g38, g39, g40, g41, g42, g43, g44, g45, g46, g47, g48, g49, g50, g51, g52, g53, g54, g55, g56, g57, g58, g59, g60, g61, g62, g63, g64, g65, g66, g67, g68, g69, g70, g71, g72, g73, g74, g75, g76, g77, g78, g79, g80, g81, g82, g83, g84, g85, g86, g87, g88, g89, g90, (.bool y91), g92, g93, g94, g95, g96], ds⟩ S (fun v S1 => v = (.bool p.1) ∧ S1 = p.2) := by
  unfold J6 at h
  refine qS 92 rfl (ok_move · (.tmp rfl)) ?_
  rcases ifc h with ⟨hc76, h⟩ | ⟨hc76, h⟩
  · obtain ⟨p77, hp77, h⟩ := bindo h
    obtain ⟨p78, hp78, h⟩ := bindo h
    refine qG 92 93 rfl hc76 (ok_load_s · sc3 (.tmp rfl) hp77 (ldI_out hp78)) ?_
    obtain ⟨p79, hp79, h⟩ := bindo h
    refine q_call_g (t := 92) (dst := some 94) rfl rfl rfl hc76 (.func _) (.cons (.tmp rfl) (.cons (.int _ _) Evs.nil)) (HInv.static caps_Has.at_ caps_Has.body (caps_Has.snd hD hH hp79)) ?_
    rintro _ _ ⟨rfl, rfl⟩
    refine qG 92 95 rfl hc76 (ok_not · (.tmp rfl)) ?_
    try dsimp only [w0, w1, w2, w3]
    refine qS 96 rfl (ok_pick_tt · (.tmp rfl) hc76 (.tmp rfl)) ?_
    try dsimp only [w0, w1, w2, w3]
    exact J7_snd hD hH h
  · refine q_skip (dst := some 93) (t := 92) rfl rfl rfl (bfalse hc76) ?_
    refine q_skip (dst := some 94) (t := 92) rfl rfl rfl (bfalse hc76) ?_
    refine q_skip (dst := some 95) (t := 92) rfl rfl rfl (bfalse hc76) ?_
    try dsimp only [w0, w1, w2, w3]
    refine qS 96 rfl (ok_pick_ff · (.tmp rfl) (bfalse hc76) (.bool _)) ?_
    try dsimp only [w0, w1, w2, w3]
    exact J7_snd hD hH h
def J5 (D : Dp) (H : Hd) (k : Nat) (y2 : (Option HA)) (y4 : (Option HA)) (y86 : Bool) (ds : List Nat) (S : HS) : Option ((Bool) × HS) :=
  (if y86 = true then
  (Option.bind (y2) fun p73 =>
  (Option.bind (HS.ldI S .i64 p73) fun p74 =>
  (Option.bind (caps_Has.f D H p74 3 S) fun p75 =>
  J6 D H k y2 y4 (!p75.1) ds p75.2))) else
  J6 D H k y2 y4 false ds S)
theorem J5_snd {D : Dp} {H : Hd} {k : Nat} (hD : DSound Tryd.prog base W0 D) (hH : HSound Tryd.prog base W0 β0 H)  {y2 : (Option HA)} {y4 : (Option HA)} {y86 : Bool} {ds : List Nat} {S : HS} {p : (Bool) × HS} {g0 g1 g3 g5 g6 g7 g8 g9 g10 g11 g12 g13 g14 g15 g16 g17 g18 g19 g20 g21 g22 g23 g24 g25 g26 g27 g28 g29 g30 g31 g32 g33 g34 g35 g36 g37 g38 g39 g40 g41 g42 g43 g44 g45 g46 g47 g48 g49 g50 g51 g52 g53 g54 g55 g56 g57 g58 g59 g60 g61 g62 g63 g64 g65 g66 g67 g68 g69 g70 g71 g72 g73 g74 g75 g76 g77 g78 g79 g80 g81 g82 g83 g84 g85 g87 g88 g89 g90 g91 g92 g93 g94 g95 g96 : HV} (h : J5 D H k y2 y4 y86 ds S = some p) : HRun Tryd.prog base W0 β0 5 none [.inRegion r61 [7, 8, 9, 10, 11, 12, 13, 14, 15, 16, 17], .code c62] ⟨[g0, g1, (.ptr y2), g3, (.ptr y4), g5, g6, g7, g8, g9, g10, g11, g12, g13, g14, g15, g16, g17, g18, g19, g20, g21, g22, g23, g24, g25, g26, g27, g28, g29, g30, g31, g32, g33, g34, g35, g36, g37, g38, g39, g40, g41, g42, g43, g44, g45, g46, g47, g48, g49, g50, g51, g52, g53, g54, g55, g56, g57, g58, g59, g60, g61, g62, g63, g64, g65, g66, g67, g68, g69, g70, g71, g72, g73, g74, g75, g76, g77, g78, g79, g80, g81, g82, g83, g84, g85, (.bool y86), g87, g88, g89, g90, g91, g92, g93, g94, g95, g96], ds⟩ S (fun v S1 => v = (.bool p.1) ∧ S1 = p.2) := by
  unfold J5 at h
  refine qS 87 rfl (ok_move · (.tmp rfl)) ?_
  try dsimp only [w0, w1, w2, w3]
  rcases ifc h with ⟨hc72, h⟩ | ⟨hc72, h⟩
  · obtain ⟨p73, hp73, h⟩ := bindo h
    obtain ⟨p74, hp74, h⟩ := bindo h
    refine qG 87 88 rfl hc72 (ok_load_s · sc3 (.tmp rfl) hp73 (ldI_out hp74)) ?_
    obtain ⟨p75, hp75, h⟩ := bindo h
    refine q_call_g (t := 87) (dst := some 89) rfl rfl rfl hc72 (.func _) (.cons (.tmp rfl) (.cons (.int _ _) Evs.nil)) (HInv.static caps_Has.at_ caps_Has.body (caps_Has.snd hD hH hp75)) ?_
    rintro _ _ ⟨rfl, rfl⟩
    refine qG 87 90 rfl hc72 (ok_not · (.tmp rfl)) ?_
    refine qS 91 rfl (ok_pick_tt · (.tmp rfl) hc72 (.tmp rfl)) ?_
    try dsimp only [w0, w1, w2, w3]
    try dsimp only [w0, w1, w2, w3]
    exact J6_snd hD hH h
  · refine q_skip (dst := some 88) (t := 87) rfl rfl rfl (bfalse hc72) ?_
    refine q_skip (dst := some 89) (t := 87) rfl rfl rfl (bfalse hc72) ?_
    refine q_skip (dst := some 90) (t := 87) rfl rfl rfl (bfalse hc72) ?_
    refine qS 91 rfl (ok_pick_ff · (.tmp rfl) (bfalse hc72) (.bool _)) ?_
    try dsimp only [w0, w1, w2, w3]
    try dsimp only [w0, w1, w2, w3]
    exact J6_snd hD hH h
def J2 (D : Dp) (H : Hd) (k : Nat) (y2 : (Option HA)) (y4 : (Option HA)) (y46 : Bool) (ds : List Nat) (S : HS) : Option ((Bool) × HS) :=
  (if y46 = true then
  (Option.bind (y4) fun p22 =>
  (Option.bind (HS.sets S p22 [(.bool false)]) fun p23 =>
  (Option.bind (HS.leave p23 ds) fun p24 =>
  (Option.bind (y4) fun p25 =>
  (Option.bind (HS.ldB p24 p25) fun p26 =>
  some (p26, p24)))))) else
  (Option.bind (caps_All.f ) fun p27 =>
  (letv (HS.new S (.cells 1 [[(.int .i64 0)]] true)) fun p28 =>
  (Option.bind (HS.sets p28 (HA.cell0 S.next) [(.int .i64 0)]) fun p29 =>
  (Option.bind (HV.isNilFn p27) fun p30 =>
  (if (p30) = true then
  (Option.bind (y4) fun p32 =>
  (Option.bind (HS.sets p29 p32 [(.bool false)]) fun p33 =>
  (Option.bind (HS.leave p33 ds) fun p34 =>
  (Option.bind (y4) fun p35 =>
  (Option.bind (HS.ldB p34 p35) fun p36 =>
  some (p36, p34)))))) else
  (Option.bind (D (Hd.set H (HS.next p29 + 1) fun vs T =>
  (Option.bind (HS.lp T (HS.next p29 + 1)) fun u62 =>
  (Option.bind (args2 vs) fun ar59 =>
  (Option.bind (dS ar59.1) fun p60 =>
  (Option.bind (dI .i64 ar59.2) fun p61 =>
  (J3 D H k (HS.next p29 + 1) y2 y4 (some (HA.cell0 S.next)) p60 p61 T)))))) p27 [.fn (.yield (HS.next p29 + 1)) [] []] (HS.new (HS.new p29 .defer) (.loop .ready none))) fun p63 =>
  (Option.bind (HS.finish p63.2 (HS.next p29 + 1)) fun p64 =>
  (Option.bind (pcode p64.1) fun n65 =>
  (if n65 = 0 then
  (Option.bind (HS.ldI p64.2 .i64 (HA.cell0 S.next)) fun p67 =>
  (if p67 = 7 then
  (Option.bind (y2) fun p69 =>
  (Option.bind (HS.ldI p64.2 .i64 p69) fun p70 =>
  (Option.bind (caps_Has.f D H p70 0 p64.2) fun p71 =>
  J5 D H k y2 y4 (!p71.1) (HS.next p29 :: ds) p71.2))) else
  J5 D H k y2 y4 false (HS.next p29 :: ds) p64.2)) else
  (if n65 = 1 then
  (Option.bind (HS.leave p64.2 (HS.next p29 :: ds)) fun p86 =>
  (Option.bind (y4) fun p87 =>
  (Option.bind (HS.ldB p86 p87) fun p88 =>
  some (p88, p86)))) else
  none)))))))))))
theorem J2_snd {D : Dp} {H : Hd} {k : Nat} (hD : DSound Tryd.prog base W0 D) (hH : HSound Tryd.prog base W0 β0 H)  {y2 : (Option HA)} {y4 : (Option HA)} {y46 : Bool} {ds : List Nat} {S : HS} {p : (Bool) × HS} {g0 g1 g3 g5 g6 g7 g8 g9 g10 g11 g12 g13 g14 g15 g16 g17 g18 g19 g20 g21 g22 g23 g24 g25 g26 g27 g28 g29 g30 g31 g32 g33 g34 g35 g36 g37 g38 g39 g40 g41 g42 g43 g44 g45 g47 g48 g49 g50 g51 g52 g53 g54 g55 g56 g57 g58 g59 g60 g61 g62 g63 g64 g65 g66 g67 g68 g69 g70 g71 g72 g73 g74 g75 g76 g77 g78 g79 g80 g81 g82 g83 g84 g85 g86 g87 g88 g89 g90 g91 g92 g93 g94 g95 g96 : HV} (h : J2 D H k y2 y4 y46 ds S = some p) : HRun Tryd.prog base W0 β0 5 none [.code c27, .code c32] ⟨[g0, g1, (.ptr y2), g3, (.ptr y4), g5, g6, g7, g8, g9, g10, g11, g12, g13, g14, g15, g16, g17, g18, g19, g20, g21, g22, g23, g24, g25, g26, g27, g28, g29, g30, g31, g32, g33, g34, g35, g36, g37, g38, g39, g40, g41, g42, g43, g44, g45, (.bool y46), g47, g48, g49, g50, g51, g52, g53, g54, g55, g56, g57, g58, g59, g60, g61, g62, g63, g64, g65, g66, g67, g68, g69, g70, g71, g72, g73, g74, g75, g76, g77, g78, g79, g80, g81, g82, g83, g84, g85, g86, g87, g88, g89, g90, g91, g92, g93, g94, g95, g96], ds⟩ S (fun v S1 => v = (.bool p.1) ∧ S1 = p.2) := by
  unfold J2 at h
  rcases ifc h with ⟨hc21, h⟩ | ⟨hc21, h⟩
  · refine q_cond_t rfl (.tmp rfl) hc21 ?_
    refine q_seq rfl ?_
    refine q_region rfl rfl ?_
    obtain ⟨p22, hp22, h⟩ := bindo h
    obtain ⟨p23, hp23, h⟩ := bindo h
    refine qN rfl (ok_store_s (v := (.bool false)) · sz4 (.tmp rfl) hp22 (.bool _) rfl hp23) ?_
    refine hr_region_end ?_
    try dsimp only [w0, w1, w2, w3]
    obtain ⟨p24, hp24, h⟩ := bindo h
    obtain ⟨p25, hp25, h⟩ := bindo h
    obtain ⟨p26, hp26, h⟩ := bindo h
    cases h
    exact q_ret rfl at_.at_ hp24 (resL1 rfl (.cell rfl hp25 sc4 (ldB_out hp26))) ⟨rfl, rfl⟩
  · refine q_cond_f rfl (.tmp rfl) (bfalse hc21) ?_
    refine q_skipc rfl ?_
    refine q_seq rfl ?_
    refine q_region rfl rfl ?_
    obtain ⟨p27, hp27, h⟩ := bindo h
    refine q_call (dst := some 47) rfl (.func _) Evs.nil (HInv.static caps_All.at_ caps_All.body (caps_All.snd  hp27)) ?_
    rintro _ _ ⟨rfl, rfl⟩
    obtain ⟨p28, hp28, h⟩ := leto h
    refine qS 9 rfl (ok_alloc_e · zi3 zr3 (by decide) rfl hp28) ?_
    obtain ⟨p29, hp29, h⟩ := bindo h
    refine qN rfl (ok_store_s (v := (.int .i64 0)) · sz3 (.tmp rfl) rfl (.int _ _) rfl hp29) ?_
    refine qS 10 rfl (ok_assign · (.tmp rfl)) ?_
    refine hr_region_end ?_
    try dsimp only [w0, w1, w2, w3]
    refine q_seq rfl ?_
    refine q_seq rfl ?_
    refine q_region rfl rfl ?_
    refine qS 48 rfl (ok_move · (.tmp rfl)) ?_
    obtain ⟨p30, hp30, h⟩ := bindo h
    refine qS 49 rfl (ok_nil_fn · tu30 (.tmp rfl) hp30 (.inl ⟨rfl, rfl⟩)) ?_
    refine hr_region_end ?_
    try dsimp only [w0, w1, w2, w3]
    rcases ifc h with ⟨hc31, h⟩ | ⟨hc31, h⟩
    · refine q_cond_t rfl (.tmp rfl) hc31 ?_
      refine q_seq rfl ?_
      refine q_region rfl rfl ?_
      obtain ⟨p32, hp32, h⟩ := bindo h
      obtain ⟨p33, hp33, h⟩ := bindo h
      refine qN rfl (ok_store_s (v := (.bool false)) · sz4 (.tmp rfl) hp32 (.bool _) rfl hp33) ?_
      refine hr_region_end ?_
      try dsimp only [w0, w1, w2, w3]
      obtain ⟨p34, hp34, h⟩ := bindo h
      obtain ⟨p35, hp35, h⟩ := bindo h
      obtain ⟨p36, hp36, h⟩ := bindo h
      cases h
      exact q_ret rfl at_.at_ hp34 (resL1 rfl (.cell rfl hp35 sc4 (ldB_out hp36))) ⟨rfl, rfl⟩
    · refine q_cond_f rfl (.tmp rfl) (bfalse hc31) ?_
      refine q_skipc rfl ?_
      refine q_seq rfl ?_
      refine q_seq rfl ?_
      refine q_region rfl rfl ?_
      refine qS 50 rfl (ok_move · (.tmp rfl)) ?_
      refine hr_region_end ?_
      try dsimp only [w0, w1, w2, w3]
      refine q_block rfl ?_
      obtain ⟨p63, hp63, h⟩ := bindo h
      obtain ⟨p64, hp64, h⟩ := bindo h
      obtain ⟨n65, hn65, h⟩ := bindo h
      refine q_range (D := D) (H := H) rfl (.tmp rfl) hD hH hp63 hp64 ?_ ?_
      · intro β1 hle hLA vs T u T' hr
        obtain ⟨u62, hu62, hr⟩ := bindo hr
        obtain ⟨ar59, har59, hr⟩ := bindo hr
        obtain ⟨p60, hp60, hr⟩ := bindo hr
        obtain ⟨p61, hp61, hr⟩ := bindo hr
        rw [args2_out har59]
        refine q_yield2 hLA hu62 rfl rfl ?_
        rw [dS_out hp60, dI_out hp61]
        simp only [HAct.params, List.set_cons_zero, List.set_cons_succ]
        exact J3_snd hD (hH.up hle) hr
      · rcases ifc h with ⟨hc66, h⟩ | ⟨hc66, h⟩
        · rw [pcode0 hn65 hc66]
          simp only [jumped_none, jumped_some]
          refine hr_inBlock ?_
          refine q_seq rfl ?_
          refine q_region rfl rfl ?_
          obtain ⟨p67, hp67, h⟩ := bindo h
          refine qS 80 rfl (ok_load_s · sc3 (.tmp rfl) rfl (ldI_out hp67)) ?_
          refine qS 81 rfl (ok_ibin · (.tmp rfl) (.int _ _) rfl) ?_
          refine qS 82 rfl (ok_move · (.tmp rfl)) ?_
          rcases ifc h with ⟨hc68, h⟩ | ⟨hc68, h⟩
          · obtain ⟨p69, hp69, h⟩ := bindo h
            obtain ⟨p70, hp70, h⟩ := bindo h
            refine qG 82 83 rfl (decide_eq_true hc68) (ok_load_s · sc3 (.tmp rfl) hp69 (ldI_out hp70)) ?_
            try dsimp only [w0, w1, w2, w3]
            obtain ⟨p71, hp71, h⟩ := bindo h
            refine q_call_g (t := 82) (dst := some 84) rfl rfl rfl (decide_eq_true hc68) (.func _) (.cons (.tmp rfl) (.cons (.int _ _) Evs.nil)) (HInv.static caps_Has.at_ caps_Has.body (caps_Has.snd hD hH hp71)) ?_
            rintro _ _ ⟨rfl, rfl⟩
            refine qG 82 85 rfl (decide_eq_true hc68) (ok_not · (.tmp rfl)) ?_
            refine qS 86 rfl (ok_pick_tt · (.tmp rfl) (decide_eq_true hc68) (.tmp rfl)) ?_
            try dsimp only [w0, w1, w2, w3]
            exact J5_snd hD hH h
          · refine q_skip (dst := some 83) (t := 82) rfl rfl rfl (decide_eq_false hc68) ?_
            try dsimp only [w0, w1, w2, w3]
            refine q_skip (dst := some 84) (t := 82) rfl rfl rfl (decide_eq_false hc68) ?_
            refine q_skip (dst := some 85) (t := 82) rfl rfl rfl (decide_eq_false hc68) ?_
            refine qS 86 rfl (ok_pick_ff · (.tmp rfl) (decide_eq_false hc68) (.bool _)) ?_
            try dsimp only [w0, w1, w2, w3]
            exact J5_snd hD hH h
        · rcases ifc h with ⟨hc85, h⟩ | ⟨hc85, h⟩
          · rw [pcode1 hn65 hc85]
            simp only [jumped_none, jumped_some]
            obtain ⟨p86, hp86, h⟩ := bindo h
            obtain ⟨p87, hp87, h⟩ := bindo h
            obtain ⟨p88, hp88, h⟩ := bindo h
            cases h
            exact q_ret rfl at_.at_ hp86 (resL1 rfl (.cell rfl hp87 sc4 (ldB_out hp88))) ⟨rfl, rfl⟩
          · cases h
def J1 (D : Dp) (H : Hd) (k : Nat) (y2 : (Option HA)) (y4 : (Option HA)) (y7 : Int) (y40 : Bool) (ds : List Nat) (S : HS) : Option ((Bool) × HS) :=
  (if y40 = true then
  J2 D H k y2 y4 true ds S else
  (Option.bind (y2) fun p89 =>
  (Option.bind (HS.ldI S .i64 p89) fun p90 =>
  J2 D H k y2 y4 (!decide (y7 = (iand .i64 p90 7))) ds S)))
theorem J1_snd {D : Dp} {H : Hd} {k : Nat} (hD : DSound Tryd.prog base W0 D) (hH : HSound Tryd.prog base W0 β0 H)  {y2 : (Option HA)} {y4 : (Option HA)} {y7 : Int} {y40 : Bool} {ds : List Nat} {S : HS} {p : (Bool) × HS} {g0 g1 g3 g5 g6 g8 g9 g10 g11 g12 g13 g14 g15 g16 g17 g18 g19 g20 g21 g22 g23 g24 g25 g26 g27 g28 g29 g30 g31 g32 g33 g34 g35 g36 g37 g38 g39 g41 g42 g43 g44 g45 g46 g47 g48 g49 g50 g51 g52 g53 g54 g55 g56 g57 g58 g59 g60 g61 g62 g63 g64 g65 g66 g67 g68 g69 g70 g71 g72 g73 g74 g75 g76 g77 g78 g79 g80 g81 g82 g83 g84 g85 g86 g87 g88 g89 g90 g91 g92 g93 g94 g95 g96 : HV} (h : J1 D H k y2 y4 y7 y40 ds S = some p) : HRun Tryd.prog base W0 β0 5 none [.inRegion r26 [14, 15, 16, 17, 18, 19], .code c27, .code c32] ⟨[g0, g1, (.ptr y2), g3, (.ptr y4), g5, g6, (.int .i64 y7), g8, g9, g10, g11, g12, g13, g14, g15, g16, g17, g18, g19, g20, g21, g22, g23, g24, g25, g26, g27, g28, g29, g30, g31, g32, g33, g34, g35, g36, g37, g38, g39, (.bool y40), g41, g42, g43, g44, g45, g46, g47, g48, g49, g50, g51, g52, g53, g54, g55, g56, g57, g58, g59, g60, g61, g62, g63, g64, g65, g66, g67, g68, g69, g70, g71, g72, g73, g74, g75, g76, g77, g78, g79, g80, g81, g82, g83, g84, g85, g86, g87, g88, g89, g90, g91, g92, g93, g94, g95, g96], ds⟩ S (fun v S1 => v = (.bool p.1) ∧ S1 = p.2) := by
  unfold J1 at h
  refine qS 41 rfl (ok_move · (.tmp rfl)) ?_
  rcases ifc h with ⟨hc20, h⟩ | ⟨hc20, h⟩
  · refine q_skip (dst := some 42) (t := 41) rfl rfl rfl hc20 ?_
    try dsimp only [w0, w1, w2, w3]
    refine q_skip (dst := some 43) (t := 41) rfl rfl rfl hc20 ?_
    refine q_skip (dst := some 44) (t := 41) rfl rfl rfl hc20 ?_
    refine q_skip (dst := some 45) (t := 41) rfl rfl rfl hc20 ?_
    refine qS 46 rfl (ok_pick_tt · (.tmp rfl) hc20 (.bool _)) ?_
    refine hr_region_end ?_
    try dsimp only [w0, w1, w2, w3]
    try dsimp only [w0, w1, w2, w3]
    exact J2_snd hD hH h
  · refine qG 41 42 rfl (bfalse hc20) (ok_move · (.tmp rfl)) ?_
    try dsimp only [w0, w1, w2, w3]
    obtain ⟨p89, hp89, h⟩ := bindo h
    obtain ⟨p90, hp90, h⟩ := bindo h
    refine qG 41 43 rfl (bfalse hc20) (ok_load_s · sc3 (.tmp rfl) hp89 (ldI_out hp90)) ?_
    refine qG 41 44 rfl (bfalse hc20) (ok_ibin · (.tmp rfl) (.int _ _) rfl) ?_
    refine qG 41 45 rfl (bfalse hc20) (ok_ibin · (.tmp rfl) (.tmp rfl) rfl) ?_
    refine qS 46 rfl (ok_pick_ff · (.tmp rfl) (bfalse hc20) (.tmp rfl)) ?_
    refine hr_region_end ?_
    try dsimp only [w0, w1, w2, w3]
    try dsimp only [w0, w1, w2, w3]
    exact J2_snd hD hH h
def J0 (D : Dp) (H : Hd) (k : Nat) (y2 : (Option HA)) (y4 : (Option HA)) (y7 : Int) (y8 : Bool) (y36 : Bool) (ds : List Nat) (S : HS) : Option ((Bool) × HS) :=
  (if y36 = true then
  J1 D H k y2 y4 y7 true ds S else
  J1 D H k y2 y4 y7 (!y8) ds S)
theorem J0_snd {D : Dp} {H : Hd} {k : Nat} (hD : DSound Tryd.prog base W0 D) (hH : HSound Tryd.prog base W0 β0 H)  {y2 : (Option HA)} {y4 : (Option HA)} {y7 : Int} {y8 : Bool} {y36 : Bool} {ds : List Nat} {S : HS} {p : (Bool) × HS} {g0 g1 g3 g5 g6 g9 g10 g11 g12 g13 g14 g15 g16 g17 g18 g19 g20 g21 g22 g23 g24 g25 g26 g27 g28 g29 g30 g31 g32 g33 g34 g35 g37 g38 g39 g40 g41 g42 g43 g44 g45 g46 g47 g48 g49 g50 g51 g52 g53 g54 g55 g56 g57 g58 g59 g60 g61 g62 g63 g64 g65 g66 g67 g68 g69 g70 g71 g72 g73 g74 g75 g76 g77 g78 g79 g80 g81 g82 g83 g84 g85 g86 g87 g88 g89 g90 g91 g92 g93 g94 g95 g96 : HV} (h : J0 D H k y2 y4 y7 y8 y36 ds S = some p) : HRun Tryd.prog base W0 β0 5 none [.inRegion r26 [10, 11, 12, 13, 14, 15, 16, 17, 18, 19], .code c27, .code c32] ⟨[g0, g1, (.ptr y2), g3, (.ptr y4), g5, g6, (.int .i64 y7), (.bool y8), g9, g10, g11, g12, g13, g14, g15, g16, g17, g18, g19, g20, g21, g22, g23, g24, g25, g26, g27, g28, g29, g30, g31, g32, g33, g34, g35, (.bool y36), g37, g38, g39, g40, g41, g42, g43, g44, g45, g46, g47, g48, g49, g50, g51, g52, g53, g54, g55, g56, g57, g58, g59, g60, g61, g62, g63, g64, g65, g66, g67, g68, g69, g70, g71, g72, g73, g74, g75, g76, g77, g78, g79, g80, g81, g82, g83, g84, g85, g86, g87, g88, g89, g90, g91, g92, g93, g94, g95, g96], ds⟩ S (fun v S1 => v = (.bool p.1) ∧ S1 = p.2) := by
  unfold J0 at h
  refine qS 37 rfl (ok_move · (.tmp rfl)) ?_
  rcases ifc h with ⟨hc19, h⟩ | ⟨hc19, h⟩
  · refine q_skip (dst := some 38) (t := 37) rfl rfl rfl hc19 ?_
    try dsimp only [w0, w1, w2, w3]
    refine q_skip (dst := some 39) (t := 37) rfl rfl rfl hc19 ?_
    refine qS 40 rfl (ok_pick_tt · (.tmp rfl) hc19 (.bool _)) ?_
    try dsimp only [w0, w1, w2, w3]
    exact J1_snd hD hH h
  · refine qG 37 38 rfl (bfalse hc19) (ok_move · (.tmp rfl)) ?_
    try dsimp only [w0, w1, w2, w3]
    refine qG 37 39 rfl (bfalse hc19) (ok_not · (.tmp rfl)) ?_
    refine qS 40 rfl (ok_pick_ff · (.tmp rfl) (bfalse hc19) (.tmp rfl)) ?_
    try dsimp only [w0, w1, w2, w3]
    exact J1_snd hD hH h
def f (D : Dp) (H : Hd) (k : Nat) (x0 : Int) (x1 : (List UInt8)) (S : HS) : Option ((Bool) × HS) :=
  (letv (HS.new S (.cells 1 [[(.int .i64 x0)]] true)) fun p1 =>
  (letv (HS.new p1 (.cells 1 [[(.bool false)]] true)) fun p2 =>
  (Option.bind (rollcalllaw12_awake.f D H k p2) fun p3 =>
  (if (!p3.1) = true then
  (Option.bind (HS.sets p3.2 (HA.cell0 p1.next) [(.bool false)]) fun p5 =>
  (Option.bind (HS.leave p5 []) fun p6 =>
  (Option.bind (HS.ldB p6 (HA.cell0 p1.next)) fun p7 =>
  some (p7, p6)))) else
  (if (List.length x1 : Int) > 40 then
  (Option.bind (HS.sets p3.2 (HA.cell0 p1.next) [(.bool true)]) fun p9 =>
  (Option.bind (HS.leave p9 []) fun p10 =>
  (Option.bind (HS.ldB p10 (HA.cell0 p1.next)) fun p11 =>
  some (p11, p10)))) else
  (Option.bind (HS.ldI p3.2 .i64 (HA.cell0 S.next)) fun p12 =>
  (Option.bind (caps_Text.f D H p12 p3.2) fun p13 =>
  (Option.bind (caps_Number.f D H x1 p13.2) fun p14 =>
  (Option.bind (caps_Apply.f D H k 0 p13.1 p14.2) fun p15 =>
  (Option.bind (HS.ldI p15.2 .i64 (HA.cell0 S.next)) fun p16 =>
  (Option.bind (rollcallref12_Text.f k p16 p15.2) fun p17 =>
  (if (!decide (p13.1 = p17.1)) = true then
  J0 D H k (some (HA.cell0 S.next)) (some (HA.cell0 p1.next)) p15.1.1 p15.1.2 true [] p17.2 else
  (Option.bind (rollcallref12_Number.f k x1 p17.2) fun p91 =>
  J0 D H k (some (HA.cell0 S.next)) (some (HA.cell0 p1.next)) p15.1.1 p15.1.2 (!decide (p14.1 = p91.1)) [] p91.2)))))))))))))
theorem snd {D : Dp} {H : Hd} {k : Nat} {x0 : Int} {x1 : (List UInt8)} {S : HS} (hD : DSound Tryd.prog base W0 D) (hH : HSound Tryd.prog base W0 β0 H)  {p : (Bool) × HS} (h : f D H k x0 x1 S = some p) : HCall Tryd.prog base W0 β0 5 [(.int .i64 x0), (.str x1)] S (fun v S1 => v = (.bool p.1) ∧ S1 = p.2) := by
  unfold f at h
  refine HCall.of_run at_.at_ body ?_
  show HRun Tryd.prog base W0 β0 5 none [.code c0] ⟨[(.int .i64 x0), (.str x1), τ, τ, τ, τ, τ, τ, τ, τ, τ, τ, τ, τ, τ, τ, τ, τ, τ, τ, τ, τ, τ, τ, τ, τ, τ, τ, τ, τ, τ, τ, τ, τ, τ, τ, τ, τ, τ, τ, τ, τ, τ, τ, τ, τ, τ, τ, τ, τ, τ, τ, τ, τ, τ, τ, τ, τ, τ, τ, τ, τ, τ, τ, τ, τ, τ, τ, τ, τ, τ, τ, τ, τ, τ, τ, τ, τ, τ, τ, τ, τ, τ, τ, τ, τ, τ, τ, τ, τ, τ, τ, τ, τ, τ, τ, τ], []⟩ S _
  refine q_seq rfl ?_
  refine q_region rfl rfl ?_
  obtain ⟨p1, hp1, h⟩ := leto h
  refine qS 2 rfl (ok_box_e · (.tmp rfl) (Nat.zero_lt_succ _) rfl hp1) ?_
  obtain ⟨p2, hp2, h⟩ := leto h
  refine qS 4 rfl (ok_alloc_e · zi4 zr4 (by decide) rfl hp2) ?_
  refine hr_region_end ?_
  try dsimp only [w0, w1, w2, w3]
  refine q_seq rfl ?_
  refine q_seq rfl ?_
  refine q_region rfl rfl ?_
  obtain ⟨p3, hp3, h⟩ := bindo h
  refine q_call (dst := some 13) rfl (.func _) Evs.nil (HInv.static rollcalllaw12_awake.at_ rollcalllaw12_awake.body (rollcalllaw12_awake.snd hD hH hp3)) ?_
  rintro _ _ ⟨rfl, rfl⟩
  refine qS 14 rfl (ok_not · (.tmp rfl)) ?_
  refine hr_region_end ?_
  try dsimp only [w0, w1, w2, w3]
  rcases ifc h with ⟨hc4, h⟩ | ⟨hc4, h⟩
  · refine q_cond_t rfl (.tmp rfl) hc4 ?_
    refine q_seq rfl ?_
    refine q_region rfl rfl ?_
    obtain ⟨p5, hp5, h⟩ := bindo h
    refine qN rfl (ok_store_s (v := (.bool false)) · sz4 (.tmp rfl) rfl (.bool _) rfl hp5) ?_
    refine hr_region_end ?_
    try dsimp only [w0, w1, w2, w3]
    obtain ⟨p6, hp6, h⟩ := bindo h
    obtain ⟨p7, hp7, h⟩ := bindo h
    cases h
    exact q_ret rfl at_.at_ hp6 (resL1 rfl (.cell rfl rfl sc4 (ldB_out hp7))) ⟨rfl, rfl⟩
  · refine q_cond_f rfl (.tmp rfl) (bfalse hc4) ?_
    refine q_skipc rfl ?_
    refine q_seq rfl ?_
    refine q_seq rfl ?_
    refine q_region rfl rfl ?_
    refine qS 15 rfl (ok_move · (.tmp rfl)) ?_
    refine qS 16 rfl (ok_len_str · rfl tu9 (.tmp rfl)) ?_
    refine qS 17 rfl (ok_ibin · (.tmp rfl) (.int _ _) rfl) ?_
    refine hr_region_end ?_
    try dsimp only [w0, w1, w2, w3]
    rcases ifc h with ⟨hc8, h⟩ | ⟨hc8, h⟩
    · refine q_cond_t rfl (.tmp rfl) (decide_eq_true hc8) ?_
      refine q_seq rfl ?_
      refine q_region rfl rfl ?_
      obtain ⟨p9, hp9, h⟩ := bindo h
      refine qN rfl (ok_store_s (v := (.bool true)) · sz4 (.tmp rfl) rfl (.bool _) rfl hp9) ?_
      refine hr_region_end ?_
      try dsimp only [w0, w1, w2, w3]
      obtain ⟨p10, hp10, h⟩ := bindo h
      obtain ⟨p11, hp11, h⟩ := bindo h
      cases h
      exact q_ret rfl at_.at_ hp10 (resL1 rfl (.cell rfl rfl sc4 (ldB_out hp11))) ⟨rfl, rfl⟩
    · refine q_cond_f rfl (.tmp rfl) (decide_eq_false hc8) ?_
      refine q_skipc rfl ?_
      refine q_seq rfl ?_
      refine q_region rfl rfl ?_
      obtain ⟨p12, hp12, h⟩ := bindo h
      refine qS 18 rfl (ok_load_s · sc3 (.tmp rfl) rfl (ldI_out hp12)) ?_
      obtain ⟨p13, hp13, h⟩ := bindo h
      refine q_call (dst := some 19) rfl (.func _) (.cons (.tmp rfl) Evs.nil) (HInv.static caps_Text.at_ caps_Text.body (caps_Text.snd hD hH hp13)) ?_
      rintro _ _ ⟨rfl, rfl⟩
      refine qS 5 rfl (ok_assign · (.tmp rfl)) ?_
      refine hr_region_end ?_
      try dsimp only [w0, w1, w2, w3]
      refine q_seq rfl ?_
      refine q_region rfl rfl ?_
      refine qS 20 rfl (ok_move · (.tmp rfl)) ?_
      obtain ⟨p14, hp14, h⟩ := bindo h
      refine q_call (dst := some 21) rfl (.func _) (.cons (.tmp rfl) Evs.nil) (HInv.static caps_Number.at_ caps_Number.body (caps_Number.snd hD hH hp14)) ?_
      rintro _ _ ⟨rfl, rfl⟩
      refine qS 6 rfl (ok_assign · (.tmp rfl)) ?_
      refine hr_region_end ?_
      try dsimp only [w0, w1, w2, w3]
      refine q_seq rfl ?_
      refine q_region rfl rfl ?_
      refine qS 23 rfl (ok_move · (.tmp rfl)) ?_
      obtain ⟨p15, hp15, h⟩ := bindo h
      refine q_call (dst := some 24) rfl (.func _) (.cons (.int _ _) (.cons (.tmp rfl) Evs.nil)) (HInv.static caps_Apply.at_ caps_Apply.body (caps_Apply.snd hD hH hp15)) ?_
      rintro _ _ ⟨rfl, rfl⟩
      refine qS 22 rfl (ok_move · (.tmp rfl)) ?_
      refine qS 25 rfl (ok_extract · (.tmp rfl) rfl) ?_
      try dsimp only [w0, w1, w2, w3]
      refine qS 26 rfl (ok_extract · (.tmp rfl) rfl) ?_
      refine qS 7 rfl (ok_assign · (.tmp rfl)) ?_
      refine qS 8 rfl (ok_assign · (.tmp rfl)) ?_
      refine hr_region_end ?_
      try dsimp only [w0, w1, w2, w3]
      refine q_seq rfl ?_
      refine q_seq rfl ?_
      refine q_region rfl rfl ?_
      refine qS 27 rfl (ok_move · (.tmp rfl)) ?_
      obtain ⟨p16, hp16, h⟩ := bindo h
      refine qS 28 rfl (ok_load_s · sc3 (.tmp rfl) rfl (ldI_out hp16)) ?_
      obtain ⟨p17, hp17, h⟩ := bindo h
      refine q_call (dst := some 29) rfl (.func _) (.cons (.tmp rfl) Evs.nil) (HInv.static rollcallref12_Text.at_ rollcallref12_Text.body (rollcallref12_Text.snd  hp17)) ?_
      rintro _ _ ⟨rfl, rfl⟩
      refine qS 30 rfl (ok_sbin · (.tmp rfl) (.tmp rfl) rfl) ?_
      try dsimp only [w0, w1, w2, w3]
      refine qS 31 rfl (ok_move · (.tmp rfl)) ?_
      rcases ifc h with ⟨hc18, h⟩ | ⟨hc18, h⟩
      · refine q_skip (dst := some 32) (t := 31) rfl rfl rfl hc18 ?_
        refine q_skip (dst := some 33) (t := 31) rfl rfl rfl hc18 ?_
        refine q_skip (dst := some 34) (t := 31) rfl rfl rfl hc18 ?_
        try dsimp only [w0, w1, w2, w3]
        refine q_skip (dst := some 35) (t := 31) rfl rfl rfl hc18 ?_
        refine qS 36 rfl (ok_pick_tt · (.tmp rfl) hc18 (.bool _)) ?_
        try dsimp only [w0, w1, w2, w3]
        exact J0_snd hD hH h
      · refine qG 31 32 rfl (bfalse hc18) (ok_move · (.tmp rfl)) ?_
        refine qG 31 33 rfl (bfalse hc18) (ok_move · (.tmp rfl)) ?_
        obtain ⟨p91, hp91, h⟩ := bindo h
        refine q_call_g (t := 31) (dst := some 34) rfl rfl rfl (bfalse hc18) (.func _) (.cons (.tmp rfl) Evs.nil) (HInv.static rollcallref12_Number.at_ rollcallref12_Number.body (rollcallref12_Number.snd  hp91)) ?_
        rintro _ _ ⟨rfl, rfl⟩
        try dsimp only [w0, w1, w2, w3]
        refine qG 31 35 rfl (bfalse hc18) (ok_ibin · (.tmp rfl) (.tmp rfl) rfl) ?_
        refine qS 36 rfl (ok_pick_ff · (.tmp rfl) (bfalse hc18) (.tmp rfl)) ?_
        try dsimp only [w0, w1, w2, w3]
        exact J0_snd hD hH h
end
end rollcalllaw12_CapsTexts
section
variable {base : Nat} {W0 : World} {β0 : Bt}
def call_20 (D : Dp) (H : Hd) (k : Nat) (vs : List HV) (S : HS) : Option (HV × HS) :=
  Option.bind (args1 vs) fun a =>
  Option.bind (dF a) fun p0 =>
  Option.bind (caps_All_1.f D H p0 S) fun q =>
  some (.tup [], q.2)
theorem call_20_snd {D : Dp} {H : Hd} {k : Nat} (hD : DSound Tryd.prog base W0 D) (hH : HSound Tryd.prog base W0 β0 H) {vs : List HV} {S : HS} {p : HV × HS} (h : call_20 D H k vs S = some p) : HCall Tryd.prog base W0 β0 20 vs S (fun v1 S1 => v1 = p.1 ∧ S1 = p.2) := by
  unfold call_20 at h
  obtain ⟨a, ha, h⟩ := bindo h
  obtain ⟨p0, hp0, h⟩ := bindo h
  obtain ⟨q, hq, h⟩ := bindo h
  rw [args1_out ha, dF_out hp0]
  cases h
  exact caps_All_1.snd hD hH hq
def disp (k : Nat) : Nat → Dp
  | 0 => fun _ _ _ _ => none
  | n + 1 => fun H fv vs S => match fv with
    | .fn (.yield l) [] [] => Option.bind (H l) fun r => r vs S
    | .fn (.func f) xs ys => if f = 20 then call_20 (disp k n) H k (xs ++ vs ++ ys) S else none
    | _ => none
theorem disp_func {k n : Nat} {H : Hd} {f : Nat} {xs ys vs : List HV} {S : HS} : disp k (n + 1) H (.fn (.func f) xs ys) vs S = (if f = 20 then call_20 (disp k n) H k (xs ++ vs ++ ys) S else none) := rfl
theorem disp_yield {k n : Nat} {H : Hd} {l : Nat} {vs : List HV} {S : HS} : disp k (n + 1) H (.fn (.yield l) [] []) vs S = Option.bind (H l) fun r => r vs S := rfl
theorem disp_snd {k : Nat} : ∀ n, DSound Tryd.prog base W0 (disp k n) := by
  intro n
  induction n with
  | zero => intro _ _ _ _ _ _ _ _ h; cases h
  | succ n ih =>
    intro β0 H hH fv vs S v S' h
    unfold disp at h
    split at h
    · obtain ⟨r, hr, h⟩ := bindo h
      exact hH _ _ hr _ _ _ _ h
    · skip
      rcases ifc h with ⟨hf, h⟩ | ⟨hf, h⟩
      · subst hf; exact HInv.func caps_All_1.at_ caps_All_1.body (call_20_snd (k := k) ih hH h)
      cases h
    · cases h
end
end Go.Proofs.YtpomdkjabebmcaaDoor.X
