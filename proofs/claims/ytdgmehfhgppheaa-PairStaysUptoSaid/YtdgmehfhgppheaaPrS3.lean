/- Functions of the program, each as a Lean function over the layer HL: a call answers what the Lean function answers, where it answers. -/
import Derived.Test.YtdgmehfhgppheaaProg
import Derived.Test.YtdgmehfhgppheaaPrS2
namespace Go.Proofs.Ytdgmehfhgppheaa.X
open Go.Proofs.Ytdgmehfhgppheaa.HL
set_option linter.unusedVariables false
set_option linter.unusedSimpArgs false
set_option maxRecDepth 20000
set_option maxHeartbeats 4000000
namespace rollcalllaw11_PairStays
theorem at_ : FnAt Try.prog 5 Try.f5 := ⟨Try.func5, by kernel_rfl⟩
noncomputable def d0 := (Try.f5.body).getD .skip
noncomputable def r1 := kR (kA d0)
noncomputable def r4 := kR (kA (kA (kB d0)))
noncomputable def r7 := kR (kA (kA (kB (kA (kB d0)))))
noncomputable def r12 := kR (kA (kA (kB (kB d0))))
noncomputable def r15 := kR (kA (kA (kB (kA (kB (kB d0))))))
noncomputable def d18 := kB (kB (kB d0))
noncomputable def r19 := kR (kA d18)
noncomputable def r22 := kR (kA (kA (kB d18)))
noncomputable def r25 := kR (kA (kA (kB (kA (kB d18)))))
noncomputable def d29 := kA (kB (kB d18))
noncomputable def r30 := kR (kA d29)
noncomputable def r35 := kR (kA (kA (kA (kA (kB d29)))))
noncomputable def r41 := kR (kA (kA (kB (kA (kA (kB d29))))))
noncomputable def r42 := kR (kB (kB (kA (kA (kB d29)))))
noncomputable def d43 := kB (kB (kB d18))
noncomputable def r44 := kR (kA d43)
noncomputable def r46 := kR (kA (kB d43))
noncomputable def r49 := kR (kA (kA (kB (kB d43))))
noncomputable def r52 := kR (kA (kA (kB (kA (kB (kB d43))))))
noncomputable def d55 := kB (kB (kB d43))
noncomputable def r56 := kR (kA d55)
noncomputable def r59 := kR (kA (kA (kB d55)))
noncomputable def d60 := kB (kA (kB d55))
noncomputable def r62 := kR (kA (kA d60))
noncomputable def d64 := kA (kB (kA d60))
noncomputable def r66 := kR (kA (kA d64))
noncomputable def r69 := kR (kA (kA (kB (kA d64))))
noncomputable def r73 := kR (kA (kB d64))
noncomputable def r74 := kR (kB (kB d64))
noncomputable def r76 := kR (kA (kB (kB d55)))
noncomputable def r78 := kR (kA (kB (kB (kB d55))))
noncomputable def r80 := kR (kA (kB (kB (kB (kB d55)))))
noncomputable def r82 := kR (kA (kB (kB (kB (kB (kB d55))))))
noncomputable def c72 : Code := .seq (.region 21 r73 false) (.region 22 r74 false)
noncomputable def c67 : Code := .cond (.tmp 54) (.seq (.region 20 r69 false) .ret) .skip
noncomputable def c63 : Code := .block 3 (.seq (.seq (.region 19 r66 false) c67) c72)
noncomputable def c62 : Code := .region 18 r62 false
noncomputable def c43 : Code := .seq (.region 12 r44 false) (.seq (.region 13 r46 false) (.seq (.seq (.region 14 r49 false) (.cond (.tmp 43) (.seq (.region 15 r52 false) .ret) .skip)) (.seq (.region 16 r56 false) (.seq (.seq (.region 17 r59 false) (.block 2 (.rangeFunc (.tmp 44) #[45] c62 c63))) (.seq (.region 23 r76 false) (.seq (.region 24 r78 false) (.seq (.region 25 r80 false) (.seq (.region 26 r82 true) .ret))))))))
noncomputable def c33 : Code := .seq (.seq (.region 9 r35 false) (.cond (.tmp 29) .skip (.exit 0))) (.seq (.block 1 (.region 11 r41 true)) (.region 10 r42 false))
noncomputable def c0 : Code := .seq (.region 0 r1 false) (.seq (.seq (.region 1 r4 false) (.cond (.tmp 16) (.seq (.region 2 r7 false) .ret) .skip)) (.seq (.seq (.region 3 r12 false) (.cond (.tmp 19) (.seq (.region 4 r15 false) .ret) .skip)) (.seq (.region 5 r19 false) (.seq (.seq (.region 6 r22 false) (.cond (.tmp 25) (.seq (.region 7 r25 false) .ret) .skip)) (.seq (.seq (.region 8 r30 false) (.block 0 (.loop c33))) c43)))))
theorem body : Try.f5.body = some c0 := by kernel_rfl
section
variable {base : Nat} {W0 : World} {β0 : Bt}
def J2 (D : Dp) (H : Hd) (k : Nat) (l : Nat) (y2 : (Option HA)) (y3 : (Option HA)) (y8 : (Option HA)) (y9 : Int) (y54 : Bool) (S : HS) : Option (HV × HS) :=
  (if y54 = true then
  (Option.bind (y2) fun p48 =>
  (Option.bind (HS.sets S p48 [(.bool false)]) fun p49 =>
  (HS.endr p49 l (some .ret)))) else
  (Option.bind (y3) fun p50 =>
  (Option.bind (HS.ldP S p50) fun p51 =>
  (Option.bind (pair_Rel_int_int_Add.f k p51 y9 8 S) fun p52 =>
  (Option.bind (y8) fun p53 =>
  (Option.bind (HS.ldI p52.2 .i64 p53) fun p54 =>
  (Option.bind (y8) fun p55 =>
  (Option.bind (HS.sets p52.2 p55 [(.int .i64 (w64 (p54 + 1)))]) fun p56 =>
  (HS.endr p56 l none)))))))))
theorem J2_snd {D : Dp} {H : Hd} {k : Nat} {l : Nat} (hD : DSound Try.prog base W0 D) (hH : HSound Try.prog base W0 β0 H)  {y2 : (Option HA)} {y3 : (Option HA)} {y8 : (Option HA)} {y9 : Int} {y54 : Bool} {S : HS} {p : HV × HS} {g0 g1 g4 g5 g6 g7 g10 g11 g12 g13 g14 g15 g16 g17 g18 g19 g20 g21 g22 g23 g24 g25 g26 g27 g28 g29 g30 g31 g32 g33 g34 g35 g36 g37 g38 g39 g40 g41 g42 g43 g44 g45 g46 g47 g48 g49 g50 g51 g52 g53 g55 g56 g57 g58 g59 g60 g61 g62 g63 g64 g65 g66 g67 g68 g69 g70 g71 g72 g73 g74 g75 g76 g77 g78 g79 g80 g81 g82 g83 g84 g85 g86 g87 g88 g89 g90 g91 g92 g93 g94 g95 g96 g97 g98 g99 g100 g101 g102 g103 g104 g105 g106 g107 g108 g109 g110 g111 g112 g113 g114 g115 g116 g117 g118 g119 g120 g121 g122 : HV} (h : J2 D H k l y2 y3 y8 y9 y54 S = some p) : HRun Try.prog base W0 β0 5 (some l) [.code c67, .code c72, .inBlock 3] ⟨[g0, g1, (.ptr y2), (.ptr y3), g4, g5, g6, g7, (.ptr y8), (.int .i64 y9), g10, g11, g12, g13, g14, g15, g16, g17, g18, g19, g20, g21, g22, g23, g24, g25, g26, g27, g28, g29, g30, g31, g32, g33, g34, g35, g36, g37, g38, g39, g40, g41, g42, g43, g44, g45, g46, g47, g48, g49, g50, g51, g52, g53, (.bool y54), g55, g56, g57, g58, g59, g60, g61, g62, g63, g64, g65, g66, g67, g68, g69, g70, g71, g72, g73, g74, g75, g76, g77, g78, g79, g80, g81, g82, g83, g84, g85, g86, g87, g88, g89, g90, g91, g92, g93, g94, g95, g96, g97, g98, g99, g100, g101, g102, g103, g104, g105, g106, g107, g108, g109, g110, g111, g112, g113, g114, g115, g116, g117, g118, g119, g120, g121, g122], []⟩ S (fun v S1 => v = p.1 ∧ S1 = p.2) := by
  unfold J2 at h
  rcases ifc h with ⟨hc47, h⟩ | ⟨hc47, h⟩
  · refine q_cond_t rfl (.tmp rfl) hc47 ?_
    refine q_seq rfl ?_
    refine q_region rfl rfl ?_
    obtain ⟨p48, hp48, h⟩ := bindo h
    obtain ⟨p49, hp49, h⟩ := bindo h
    refine qN rfl (ok_store_s (v := (.bool false)) · sz4 (.tmp rfl) hp48 (.bool _) rfl hp49) ?_
    refine hr_region_end ?_
    try dsimp only [w0, w1, w2, w3]
    exact q_round_ret rfl h ⟨rfl, rfl⟩
  · refine q_cond_f rfl (.tmp rfl) (bfalse hc47) ?_
    refine q_skipc rfl ?_
    refine q_seq rfl ?_
    refine q_region rfl rfl ?_
    obtain ⟨p50, hp50, h⟩ := bindo h
    obtain ⟨p51, hp51, h⟩ := bindo h
    refine qS 55 rfl (ok_load_s · sc54 (.tmp rfl) hp50 (ldP_out hp51)) ?_
    refine qS 56 rfl (ok_move · (.tmp rfl)) ?_
    obtain ⟨p52, hp52, h⟩ := bindo h
    refine q_call (dst := some 57) rfl (.func _) (.cons (.tmp rfl) (.cons (.tmp rfl) (.cons (.int _ _) Evs.nil))) (HInv.static pair_Rel_int_int_Add.at_ pair_Rel_int_int_Add.body (pair_Rel_int_int_Add.snd  hp52)) ?_
    rintro _ _ ⟨rfl, rfl⟩
    refine hr_region_end ?_
    try dsimp only [w0, w1, w2, w3]
    refine q_region rfl rfl ?_
    obtain ⟨p53, hp53, h⟩ := bindo h
    obtain ⟨p54, hp54, h⟩ := bindo h
    refine qS 58 rfl (ok_load_s · sc3 (.tmp rfl) hp53 (ldI_out hp54)) ?_
    refine qS 59 rfl (ok_ibin · (.tmp rfl) (.int _ _) rfl) ?_
    obtain ⟨p55, hp55, h⟩ := bindo h
    obtain ⟨p56, hp56, h⟩ := bindo h
    refine qN rfl (ok_store_s (v := (.int .i64 (w64 (p54 + 1)))) · sz3 (.tmp rfl) hp55 (.tmp rfl) rfl hp56) ?_
    refine hr_region_end ?_
    try dsimp only [w0, w1, w2, w3]
    refine hr_inBlock ?_
    exact q_round_end h ⟨rfl, rfl⟩
def J1 (D : Dp) (H : Hd) (k : Nat) (l : Nat) (y2 : (Option HA)) (y3 : (Option HA)) (y6 : (Option HA)) (y8 : (Option HA)) (y45 : Int) (S : HS) : Option (HV × HS) :=
  (Option.bind (HS.begin_ S l) fun p41 =>
  (Option.bind (y8) fun p42 =>
  (Option.bind (HS.ldI p41 .i64 p42) fun p43 =>
  (Option.bind (y6) fun p44 =>
  (Option.bind (HS.ldI p41 .i64 p44) fun p45 =>
  (if p43 > p45 then
  J2 D H k l y2 y3 y8 y45 true p41 else
  (Option.bind (y3) fun p57 =>
  (Option.bind (HS.ldP p41 p57) fun p58 =>
  (Option.bind (pair_Rel_int_int_Remove.f k p58 y45 7 p41) fun p59 =>
  J2 D H k l y2 y3 y8 y45 (!p59.1) p59.2)))))))))
theorem J1_snd {D : Dp} {H : Hd} {k : Nat} {l : Nat} (hD : DSound Try.prog base W0 D) (hH : HSound Try.prog base W0 β0 H)  {y2 : (Option HA)} {y3 : (Option HA)} {y6 : (Option HA)} {y8 : (Option HA)} {y45 : Int} {S : HS} {p : HV × HS} {g0 g1 g4 g5 g7 g9 g10 g11 g12 g13 g14 g15 g16 g17 g18 g19 g20 g21 g22 g23 g24 g25 g26 g27 g28 g29 g30 g31 g32 g33 g34 g35 g36 g37 g38 g39 g40 g41 g42 g43 g44 g46 g47 g48 g49 g50 g51 g52 g53 g54 g55 g56 g57 g58 g59 g60 g61 g62 g63 g64 g65 g66 g67 g68 g69 g70 g71 g72 g73 g74 g75 g76 g77 g78 g79 g80 g81 g82 g83 g84 g85 g86 g87 g88 g89 g90 g91 g92 g93 g94 g95 g96 g97 g98 g99 g100 g101 g102 g103 g104 g105 g106 g107 g108 g109 g110 g111 g112 g113 g114 g115 g116 g117 g118 g119 g120 g121 g122 : HV} (h : J1 D H k l y2 y3 y6 y8 y45 S = some p) : HRun Try.prog base W0 β0 5 (some l) [.code c62, .beginRound, .code c63] ⟨[g0, g1, (.ptr y2), (.ptr y3), g4, g5, (.ptr y6), g7, (.ptr y8), g9, g10, g11, g12, g13, g14, g15, g16, g17, g18, g19, g20, g21, g22, g23, g24, g25, g26, g27, g28, g29, g30, g31, g32, g33, g34, g35, g36, g37, g38, g39, g40, g41, g42, g43, g44, (.int .i64 y45), g46, g47, g48, g49, g50, g51, g52, g53, g54, g55, g56, g57, g58, g59, g60, g61, g62, g63, g64, g65, g66, g67, g68, g69, g70, g71, g72, g73, g74, g75, g76, g77, g78, g79, g80, g81, g82, g83, g84, g85, g86, g87, g88, g89, g90, g91, g92, g93, g94, g95, g96, g97, g98, g99, g100, g101, g102, g103, g104, g105, g106, g107, g108, g109, g110, g111, g112, g113, g114, g115, g116, g117, g118, g119, g120, g121, g122], []⟩ S (fun v S1 => v = p.1 ∧ S1 = p.2) := by
  unfold J1 at h
  refine q_region rfl rfl ?_
  refine qS 9 rfl (ok_assign · (.tmp rfl)) ?_
  refine hr_region_end ?_
  try dsimp only [w0, w1, w2, w3]
  obtain ⟨p41, hp41, h⟩ := bindo h
  refine q_begin hp41 ?_
  refine q_block rfl ?_
  refine q_seq rfl ?_
  refine q_seq rfl ?_
  refine q_region rfl rfl ?_
  obtain ⟨p42, hp42, h⟩ := bindo h
  obtain ⟨p43, hp43, h⟩ := bindo h
  refine qS 46 rfl (ok_load_s · sc3 (.tmp rfl) hp42 (ldI_out hp43)) ?_
  obtain ⟨p44, hp44, h⟩ := bindo h
  obtain ⟨p45, hp45, h⟩ := bindo h
  refine qS 47 rfl (ok_load_s · sc3 (.tmp rfl) hp44 (ldI_out hp45)) ?_
  refine qS 48 rfl (ok_ibin · (.tmp rfl) (.tmp rfl) rfl) ?_
  refine qS 49 rfl (ok_move · (.tmp rfl)) ?_
  try dsimp only [w0, w1, w2, w3]
  rcases ifc h with ⟨hc46, h⟩ | ⟨hc46, h⟩
  · refine q_skip (dst := some 50) (t := 49) rfl rfl rfl (decide_eq_true hc46) ?_
    refine q_skip (dst := some 51) (t := 49) rfl rfl rfl (decide_eq_true hc46) ?_
    refine q_skip (dst := some 52) (t := 49) rfl rfl rfl (decide_eq_true hc46) ?_
    refine q_skip (dst := some 53) (t := 49) rfl rfl rfl (decide_eq_true hc46) ?_
    try dsimp only [w0, w1, w2, w3]
    refine qS 54 rfl (ok_pick_tt · (.tmp rfl) (decide_eq_true hc46) (.bool _)) ?_
    refine hr_region_end ?_
    try dsimp only [w0, w1, w2, w3]
    try dsimp only [w0, w1, w2, w3]
    exact J2_snd hD hH h
  · obtain ⟨p57, hp57, h⟩ := bindo h
    obtain ⟨p58, hp58, h⟩ := bindo h
    refine qG 49 50 rfl (decide_eq_false hc46) (ok_load_s · sc54 (.tmp rfl) hp57 (ldP_out hp58)) ?_
    refine qG 49 51 rfl (decide_eq_false hc46) (ok_move · (.tmp rfl)) ?_
    obtain ⟨p59, hp59, h⟩ := bindo h
    refine q_call_g (t := 49) (dst := some 52) rfl rfl rfl (decide_eq_false hc46) (.func _) (.cons (.tmp rfl) (.cons (.tmp rfl) (.cons (.int _ _) Evs.nil))) (HInv.static pair_Rel_int_int_Remove.at_ pair_Rel_int_int_Remove.body (pair_Rel_int_int_Remove.snd  hp59)) ?_
    rintro _ _ ⟨rfl, rfl⟩
    refine qG 49 53 rfl (decide_eq_false hc46) (ok_not · (.tmp rfl)) ?_
    try dsimp only [w0, w1, w2, w3]
    refine qS 54 rfl (ok_pick_ff · (.tmp rfl) (decide_eq_false hc46) (.tmp rfl)) ?_
    refine hr_region_end ?_
    try dsimp only [w0, w1, w2, w3]
    try dsimp only [w0, w1, w2, w3]
    exact J2_snd hD hH h
def L0 (D : Dp) (H : Hd) (k : Nat) : Nat → Sl → (Option HA) → (Option HA) → Int → List Nat → HS → Option ((Bool) × HS)
  | 0, _, _, _, _, _, _ => none
  | n + 1, y0, y2, y3, y5, ds, S =>
    (if y5 < (Sl.len y0 : Int) then
    (Option.bind (y3) fun p19 =>
    (Option.bind (HS.ldP S p19) fun p20 =>
    (Option.bind (HS.idx S y0 y5 1) fun p21 =>
    (Option.bind (HS.ldI S .i64 p21) fun p22 =>
    (Option.bind (pair_Rel_int_int_Add.f k p20 p22 7 S) fun p23 =>
    (L0 D H k n) y0 y2 y3 (w64 (y5 + 1)) ds p23.2))))) else
    (Option.bind (y3) fun p24 =>
    (Option.bind (HS.ldP S p24) fun p25 =>
    (Option.bind (pair_Rel_int_int_Len.f p25 S) fun p26 =>
    (letv (HS.new p26.2 (.cells 1 [[(.int .i64 0)]] true)) fun p27 =>
    (Option.bind (HS.sets p27 (HA.cell0 p26.2.next) [(.int .i64 p26.1)]) fun p28 =>
    (Option.bind (y3) fun p29 =>
    (Option.bind (HS.ldP p28 p29) fun p30 =>
    (Option.bind (pair_Rel_int_int_By.f p30 7 p28) fun p31 =>
    (Option.bind (HV.isNilFn p31.1) fun p32 =>
    (if (p32) = true then
    (Option.bind (y2) fun p34 =>
    (Option.bind (HS.sets p31.2 p34 [(.bool false)]) fun p35 =>
    (Option.bind (HS.leave p35 ds) fun p36 =>
    (Option.bind (y2) fun p37 =>
    (Option.bind (HS.ldB p36 p37) fun p38 =>
    some (p38, p36)))))) else
    (letv (HS.new p31.2 (.cells 1 [[(.int .i64 0)]] true)) fun p39 =>
    (Option.bind (HS.sets p39 (HA.cell0 p31.2.next) [(.int .i64 0)]) fun p40 =>
    (Option.bind (D (Hd.set H (HS.next p40 + 1) fun vs T =>
    (Option.bind (HS.lp T (HS.next p40 + 1)) fun u62 =>
    (Option.bind (args1 vs) fun ar60 =>
    (Option.bind (dI .i64 ar60) fun p61 =>
    (J1 D H k (HS.next p40 + 1) y2 y3 (some (HA.cell0 p26.2.next)) (some (HA.cell0 p31.2.next)) p61 T))))) p31.1 [.fn (.yield (HS.next p40 + 1)) [] []] (HS.new (HS.new p40 .defer) (.loop .ready none))) fun p63 =>
    (Option.bind (HS.finish p63.2 (HS.next p40 + 1)) fun p64 =>
    (Option.bind (pcode p64.1) fun n65 =>
    (if n65 = 0 then
    (Option.bind (rollcalllaw11_rights.f D H none 1 0 p64.2) fun p67 =>
    (Option.bind (rollcalllaw11_lefts.f D H none ([] : List UInt8) 0 p67.2) fun p68 =>
    (Option.bind (HS.ldI p68.2 .i64 (HA.cell0 p31.2.next)) fun p69 =>
    (Option.bind (HS.ldI p68.2 .i64 (HA.cell0 p26.2.next)) fun p70 =>
    (if p69 = p70 then
    (Option.bind (y3) fun p72 =>
    (Option.bind (HS.ldP p68.2 p72) fun p73 =>
    (Option.bind (pair_Rel_int_int_Len.f p73 p68.2) fun p74 =>
    (Option.bind (HS.ldI p74.2 .i64 (HA.cell0 p26.2.next)) fun p75 =>
    (Option.bind (HS.ldI p68.2 .i64 (HA.cell0 p26.2.next)) fun p76 =>
    (if p76 = p75 then
    (if p74.1 = p75 then
    (if p67.1.2 = true then
    (if p68.1.2 = true then
    (if (w64 ((Sl.len p67.1.1 : Int) + (Sl.len p68.1.1 : Int))) = 0 then
    (Option.bind (pair_Rel_int_string_Add.f k none 1 ([] : List UInt8) p74.2) fun p82 =>
    (if p82.1 = 1 then
    (Option.bind (pair_Rel_int_string_Remove.f k none 1 ([] : List UInt8) p82.2) fun p84 =>
    (if (!p84.1) = true then
    (Option.bind (pair_Rel_int_string_Drop.f D H k none 1 p84.2) fun p86 =>
    (if p86.1 = 0 then
    (Option.bind (pair_Rel_int_string_Has.f k none 1 ([] : List UInt8) p86.2) fun p88 =>
    (if (!p88.1) = true then
    (Option.bind (pair_Rel_int_string_Count.f none 1 p88.2) fun p90 =>
    (if p90.1 = 0 then
    (Option.bind (pair_Rel_int_string_Len.f none p90.2) fun p92 =>
    (Option.bind (y2) fun p93 =>
    (Option.bind (HS.sets p92.2 p93 [(.bool (decide (p92.1 = 0)))]) fun p94 =>
    (Option.bind (HS.leave p94 (HS.next p40 :: ds)) fun p95 =>
    (Option.bind (y2) fun p96 =>
    (Option.bind (HS.ldB p95 p96) fun p97 =>
    some (p97, p95))))))) else
    (Option.bind (y2) fun p98 =>
    (Option.bind (HS.sets p90.2 p98 [(.bool false)]) fun p99 =>
    (Option.bind (HS.leave p99 (HS.next p40 :: ds)) fun p100 =>
    (Option.bind (y2) fun p101 =>
    (Option.bind (HS.ldB p100 p101) fun p102 =>
    some (p102, p100)))))))) else
    (Option.bind (y2) fun p103 =>
    (Option.bind (HS.sets p88.2 p103 [(.bool false)]) fun p104 =>
    (Option.bind (HS.leave p104 (HS.next p40 :: ds)) fun p105 =>
    (Option.bind (y2) fun p106 =>
    (Option.bind (HS.ldB p105 p106) fun p107 =>
    some (p107, p105)))))))) else
    (Option.bind (y2) fun p108 =>
    (Option.bind (HS.sets p86.2 p108 [(.bool false)]) fun p109 =>
    (Option.bind (HS.leave p109 (HS.next p40 :: ds)) fun p110 =>
    (Option.bind (y2) fun p111 =>
    (Option.bind (HS.ldB p110 p111) fun p112 =>
    some (p112, p110)))))))) else
    (Option.bind (y2) fun p113 =>
    (Option.bind (HS.sets p84.2 p113 [(.bool false)]) fun p114 =>
    (Option.bind (HS.leave p114 (HS.next p40 :: ds)) fun p115 =>
    (Option.bind (y2) fun p116 =>
    (Option.bind (HS.ldB p115 p116) fun p117 =>
    some (p117, p115)))))))) else
    (Option.bind (y2) fun p118 =>
    (Option.bind (HS.sets p82.2 p118 [(.bool false)]) fun p119 =>
    (Option.bind (HS.leave p119 (HS.next p40 :: ds)) fun p120 =>
    (Option.bind (y2) fun p121 =>
    (Option.bind (HS.ldB p120 p121) fun p122 =>
    some (p122, p120)))))))) else
    (Option.bind (y2) fun p123 =>
    (Option.bind (HS.sets p74.2 p123 [(.bool false)]) fun p124 =>
    (Option.bind (HS.leave p124 (HS.next p40 :: ds)) fun p125 =>
    (Option.bind (y2) fun p126 =>
    (Option.bind (HS.ldB p125 p126) fun p127 =>
    some (p127, p125))))))) else
    (Option.bind (y2) fun p128 =>
    (Option.bind (HS.sets p74.2 p128 [(.bool false)]) fun p129 =>
    (Option.bind (HS.leave p129 (HS.next p40 :: ds)) fun p130 =>
    (Option.bind (y2) fun p131 =>
    (Option.bind (HS.ldB p130 p131) fun p132 =>
    some (p132, p130))))))) else
    (Option.bind (y2) fun p133 =>
    (Option.bind (HS.sets p74.2 p133 [(.bool false)]) fun p134 =>
    (Option.bind (HS.leave p134 (HS.next p40 :: ds)) fun p135 =>
    (Option.bind (y2) fun p136 =>
    (Option.bind (HS.ldB p135 p136) fun p137 =>
    some (p137, p135))))))) else
    (Option.bind (y2) fun p138 =>
    (Option.bind (HS.sets p74.2 p138 [(.bool false)]) fun p139 =>
    (Option.bind (HS.leave p139 (HS.next p40 :: ds)) fun p140 =>
    (Option.bind (y2) fun p141 =>
    (Option.bind (HS.ldB p140 p141) fun p142 =>
    some (p142, p140))))))) else none)))))) else
    (Option.bind (y2) fun p143 =>
    (Option.bind (HS.sets p68.2 p143 [(.bool false)]) fun p144 =>
    (Option.bind (HS.leave p144 (HS.next p40 :: ds)) fun p145 =>
    (Option.bind (y2) fun p146 =>
    (Option.bind (HS.ldB p145 p146) fun p147 =>
    some (p147, p145))))))))))) else
    (if n65 = 1 then
    (Option.bind (HS.leave p64.2 (HS.next p40 :: ds)) fun p149 =>
    (Option.bind (y2) fun p150 =>
    (Option.bind (HS.ldB p149 p150) fun p151 =>
    some (p151, p149)))) else
    none))))))))))))))))))
theorem L0_snd {D : Dp} {H : Hd} {k : Nat} (hD : DSound Try.prog base W0 D) (hH : HSound Try.prog base W0 β0 H)  : ∀ {n : Nat} ⦃y0 : Sl⦄ ⦃y2 : (Option HA)⦄ ⦃y3 : (Option HA)⦄ ⦃y5 : Int⦄ ⦃ds : List Nat⦄ ⦃S : HS⦄ ⦃p : (Bool) × HS⦄ ⦃g1 g4 g6 g7 g8 g9 g10 g11 g12 g13 g14 g15 g16 g17 g18 g19 g20 g21 g22 g23 g24 g25 g26 g27 g28 g29 g30 g31 g32 g33 g34 g35 g36 g37 g38 g39 g40 g41 g42 g43 g44 g45 g46 g47 g48 g49 g50 g51 g52 g53 g54 g55 g56 g57 g58 g59 g60 g61 g62 g63 g64 g65 g66 g67 g68 g69 g70 g71 g72 g73 g74 g75 g76 g77 g78 g79 g80 g81 g82 g83 g84 g85 g86 g87 g88 g89 g90 g91 g92 g93 g94 g95 g96 g97 g98 g99 g100 g101 g102 g103 g104 g105 g106 g107 g108 g109 g110 g111 g112 g113 g114 g115 g116 g117 g118 g119 g120 g121 g122 : HV⦄, L0 D H k n y0 y2 y3 y5 ds S = some p → HRun Try.prog base W0 β0 5 none [.inLoop c33, .inBlock 0, .code c43] ⟨[(Sl.hv y0), g1, (.ptr y2), (.ptr y3), g4, (.int .i64 y5), g6, g7, g8, g9, g10, g11, g12, g13, g14, g15, g16, g17, g18, g19, g20, g21, g22, g23, g24, g25, g26, g27, g28, g29, g30, g31, g32, g33, g34, g35, g36, g37, g38, g39, g40, g41, g42, g43, g44, g45, g46, g47, g48, g49, g50, g51, g52, g53, g54, g55, g56, g57, g58, g59, g60, g61, g62, g63, g64, g65, g66, g67, g68, g69, g70, g71, g72, g73, g74, g75, g76, g77, g78, g79, g80, g81, g82, g83, g84, g85, g86, g87, g88, g89, g90, g91, g92, g93, g94, g95, g96, g97, g98, g99, g100, g101, g102, g103, g104, g105, g106, g107, g108, g109, g110, g111, g112, g113, g114, g115, g116, g117, g118, g119, g120, g121, g122], ds⟩ S (fun v S1 => v = (.bool p.1) ∧ S1 = p.2) := by
  intro n
  induction n with
  | zero => intro _ _ _ _ _ _ _ _ _ _ _ _ _ _ _ _ _ _ _ _ _ _ _ _ _ _ _ _ _ _ _ _ _ _ _ _ _ _ _ _ _ _ _ _ _ _ _ _ _ _ _ _ _ _ _ _ _ _ _ _ _ _ _ _ _ _ _ _ _ _ _ _ _ _ _ _ _ _ _ _ _ _ _ _ _ _ _ _ _ _ _ _ _ _ _ _ _ _ _ _ _ _ _ _ _ _ _ _ _ _ _ _ _ _ _ _ _ _ _ _ _ _ _ _ _ _ h; cases h
  | succ n ih =>
    intro y0 y2 y3 y5 ds S p g1 g4 g6 g7 g8 g9 g10 g11 g12 g13 g14 g15 g16 g17 g18 g19 g20 g21 g22 g23 g24 g25 g26 g27 g28 g29 g30 g31 g32 g33 g34 g35 g36 g37 g38 g39 g40 g41 g42 g43 g44 g45 g46 g47 g48 g49 g50 g51 g52 g53 g54 g55 g56 g57 g58 g59 g60 g61 g62 g63 g64 g65 g66 g67 g68 g69 g70 g71 g72 g73 g74 g75 g76 g77 g78 g79 g80 g81 g82 g83 g84 g85 g86 g87 g88 g89 g90 g91 g92 g93 g94 g95 g96 g97 g98 g99 g100 g101 g102 g103 g104 g105 g106 g107 g108 g109 g110 g111 g112 g113 g114 g115 g116 g117 g118 g119 g120 g121 g122 h
    simp only [L0] at h
    refine hr_inLoop ?_
    refine q_seq rfl ?_
    refine q_seq rfl ?_
    refine q_region rfl rfl ?_
    refine qS 26 rfl (ok_move · (.tmp rfl)) ?_
    refine qS 27 rfl (ok_move · (.tmp rfl)) ?_
    refine qS 28 rfl (ok_len_sl (q := Sl.a y0) (n := Sl.len y0) (z := Sl.cap y0) · rfl tu43 (.tmp rfl)) ?_
    refine qS 29 rfl (ok_ibin · (.tmp rfl) (.tmp rfl) rfl) ?_
    refine hr_region_end ?_
    try dsimp only [w0, w1, w2, w3]
    rcases ifc h with ⟨hc18, h⟩ | ⟨hc18, h⟩
    · refine q_cond_t rfl (.tmp rfl) (decide_eq_true hc18) ?_
      refine q_skipc rfl ?_
      refine q_seq rfl ?_
      refine q_block rfl ?_
      refine x_start (cls := [1, 0, 0, 1, 1, 2]) (rk := [0, 1, 2, 3, 4, 5]) rfl (by kernel_rfl) ?_
      obtain ⟨p19, hp19, h⟩ := bindo h
      obtain ⟨p20, hp20, h⟩ := bindo h
      refine yr 32 [3] rfl (ok_load_s · sc54 (.tmp rfl) hp19 (ldP_out hp20)) ?_
      refine yf 33 [0] rfl (ok_move · (.tmp rfl)) ?_
      refine yf 34 [5] rfl (ok_move · (.tmp rfl)) ?_
      obtain ⟨p21, hp21, h⟩ := bindo h
      refine yr 35 [33, 34] rfl (ok_indexAddr (s := y0) · tu43 sz3 (.tmp rfl) (.tmp rfl) hp21) ?_
      try dsimp only [w0, w1, w2, w3]
      obtain ⟨p22, hp22, h⟩ := bindo h
      refine yr 36 [35] rfl (ok_load_s · sc3 (.tmp rfl) rfl (ldI_out hp22)) ?_
      obtain ⟨p23, hp23, h⟩ := bindo h
      refine x_go (e_call (dst := some 37) (ts := [32, 36]) rfl (by kernel_rfl) (.func _) (.cons (.tmp rfl) (.cons (.tmp rfl) (.cons (.int _ _) Evs.nil))) (HInv.static pair_Rel_int_int_Add.at_ pair_Rel_int_int_Add.body (pair_Rel_int_int_Add.snd  hp23))) rfl ?_
      refine x_rest rfl ?_
      refine hr_region_end ?_
      try dsimp only [w0, w1, w2, w3]
      refine hr_inBlock ?_
      refine q_region rfl rfl ?_
      refine qS 30 rfl (ok_move · (.tmp rfl)) ?_
      refine qS 31 rfl (ok_ibin · (.tmp rfl) (.int _ _) rfl) ?_
      refine qS 5 rfl (ok_assign · (.tmp rfl)) ?_
      refine hr_region_end ?_
      try dsimp only [w0, w1, w2, w3]
      try dsimp only [w0, w1, w2, w3]
      exact ih h
    · refine q_cond_f rfl (.tmp rfl) (decide_eq_false hc18) ?_
      refine q_exit rfl rfl ?_
      refine q_seq rfl ?_
      refine q_region rfl rfl ?_
      obtain ⟨p24, hp24, h⟩ := bindo h
      obtain ⟨p25, hp25, h⟩ := bindo h
      refine qS 38 rfl (ok_load_s · sc54 (.tmp rfl) hp24 (ldP_out hp25)) ?_
      obtain ⟨p26, hp26, h⟩ := bindo h
      refine q_call (dst := some 39) rfl (.func _) (.cons (.tmp rfl) Evs.nil) (HInv.static pair_Rel_int_int_Len.at_ pair_Rel_int_int_Len.body (pair_Rel_int_int_Len.snd  hp26)) ?_
      rintro _ _ ⟨rfl, rfl⟩
      obtain ⟨p27, hp27, h⟩ := leto h
      refine qS 6 rfl (ok_alloc_e · zi3 zr3 (by decide) rfl hp27) ?_
      obtain ⟨p28, hp28, h⟩ := bindo h
      refine qN rfl (ok_store_s (v := (.int .i64 p26.1)) · sz3 (.tmp rfl) rfl (.tmp rfl) rfl hp28) ?_
      refine hr_region_end ?_
      try dsimp only [w0, w1, w2, w3]
      refine q_seq rfl ?_
      refine q_region rfl rfl ?_
      obtain ⟨p29, hp29, h⟩ := bindo h
      obtain ⟨p30, hp30, h⟩ := bindo h
      refine qS 40 rfl (ok_load_s · sc54 (.tmp rfl) hp29 (ldP_out hp30)) ?_
      obtain ⟨p31, hp31, h⟩ := bindo h
      refine q_call (dst := some 41) rfl (.func _) (.cons (.tmp rfl) (.cons (.int _ _) Evs.nil)) (HInv.static pair_Rel_int_int_By.at_ pair_Rel_int_int_By.body (pair_Rel_int_int_By.snd  hp31)) ?_
      rintro _ _ ⟨rfl, rfl⟩
      refine qS 7 rfl (ok_assign · (.tmp rfl)) ?_
      refine hr_region_end ?_
      try dsimp only [w0, w1, w2, w3]
      refine q_seq rfl ?_
      refine q_seq rfl ?_
      refine q_region rfl rfl ?_
      refine qS 42 rfl (ok_move · (.tmp rfl)) ?_
      obtain ⟨p32, hp32, h⟩ := bindo h
      refine qS 43 rfl (ok_nil_fn · tu59 (.tmp rfl) hp32 (.inl ⟨rfl, rfl⟩)) ?_
      refine hr_region_end ?_
      try dsimp only [w0, w1, w2, w3]
      rcases ifc h with ⟨hc33, h⟩ | ⟨hc33, h⟩
      · refine q_cond_t rfl (.tmp rfl) hc33 ?_
        refine q_seq rfl ?_
        refine q_region rfl rfl ?_
        obtain ⟨p34, hp34, h⟩ := bindo h
        obtain ⟨p35, hp35, h⟩ := bindo h
        refine qN rfl (ok_store_s (v := (.bool false)) · sz4 (.tmp rfl) hp34 (.bool _) rfl hp35) ?_
        refine hr_region_end ?_
        try dsimp only [w0, w1, w2, w3]
        obtain ⟨p36, hp36, h⟩ := bindo h
        obtain ⟨p37, hp37, h⟩ := bindo h
        obtain ⟨p38, hp38, h⟩ := bindo h
        cases h
        exact q_ret rfl at_.at_ hp36 (resL1 rfl (.cell rfl hp37 sc4 (ldB_out hp38))) ⟨rfl, rfl⟩
      · refine q_cond_f rfl (.tmp rfl) (bfalse hc33) ?_
        refine q_skipc rfl ?_
        refine q_seq rfl ?_
        refine q_region rfl rfl ?_
        obtain ⟨p39, hp39, h⟩ := leto h
        refine qS 8 rfl (ok_alloc_e · zi3 zr3 (by decide) rfl hp39) ?_
        obtain ⟨p40, hp40, h⟩ := bindo h
        refine qN rfl (ok_store_s (v := (.int .i64 0)) · sz3 (.tmp rfl) rfl (.int _ _) rfl hp40) ?_
        refine hr_region_end ?_
        try dsimp only [w0, w1, w2, w3]
        refine q_seq rfl ?_
        refine q_seq rfl ?_
        refine q_region rfl rfl ?_
        refine qS 44 rfl (ok_move · (.tmp rfl)) ?_
        refine hr_region_end ?_
        try dsimp only [w0, w1, w2, w3]
        refine q_block rfl ?_
        obtain ⟨p63, hp63, h⟩ := bindo h
        obtain ⟨p64, hp64, h⟩ := bindo h
        obtain ⟨n65, hn65, h⟩ := bindo h
        refine q_range (D := D) (H := H) rfl (.tmp rfl) hD hH hp63 hp64 ?_ ?_
        · intro β1 hle hLA vs T u T' hr
          obtain ⟨u62, hu62, hr⟩ := bindo hr
          obtain ⟨ar60, har60, hr⟩ := bindo hr
          obtain ⟨p61, hp61, hr⟩ := bindo hr
          rw [args1_out har60]
          refine q_yield2 hLA hu62 rfl rfl ?_
          rw [dI_out hp61]
          simp only [HAct.params, List.set_cons_zero, List.set_cons_succ]
          exact J1_snd hD (hH.up hle) hr
        · rcases ifc h with ⟨hc66, h⟩ | ⟨hc66, h⟩
          · rw [pcode0 hn65 hc66]
            simp only [jumped_none, jumped_some]
            refine hr_inBlock ?_
            refine q_seq rfl ?_
            refine q_region rfl rfl ?_
            refine qS 10 rfl (ok_assign · (.const fun _ => .ptrNil)) ?_
            refine hr_region_end ?_
            try dsimp only [w0, w1, w2, w3]
            refine q_seq rfl ?_
            refine q_region rfl rfl ?_
            refine qS 61 rfl (ok_move · (.tmp rfl)) ?_
            obtain ⟨p67, hp67, h⟩ := bindo h
            refine q_call (dst := some 62) rfl (.func _) (.cons (.tmp rfl) (.cons (.int _ _) (.cons (.int _ _) Evs.nil))) (HInv.static rollcalllaw11_rights.at_ rollcalllaw11_rights.body (rollcalllaw11_rights.snd hD hH hp67)) ?_
            rintro _ _ ⟨rfl, rfl⟩
            refine qS 60 rfl (ok_move · (.tmp rfl)) ?_
            refine qS 63 rfl (ok_extract · (.tmp rfl) rfl) ?_
            try dsimp only [w0, w1, w2, w3]
            refine qS 64 rfl (ok_extract · (.tmp rfl) rfl) ?_
            refine qS 11 rfl (ok_assign · (.tmp rfl)) ?_
            refine qS 12 rfl (ok_assign · (.tmp rfl)) ?_
            refine hr_region_end ?_
            try dsimp only [w0, w1, w2, w3]
            refine q_seq rfl ?_
            refine q_region rfl rfl ?_
            refine qS 66 rfl (ok_move · (.tmp rfl)) ?_
            obtain ⟨p68, hp68, h⟩ := bindo h
            refine q_call (dst := some 67) rfl (.func _) (.cons (.tmp rfl) (.cons (.str _) (.cons (.int _ _) Evs.nil))) (HInv.static rollcalllaw11_lefts.at_ rollcalllaw11_lefts.body (rollcalllaw11_lefts.snd hD hH hp68)) ?_
            rintro _ _ ⟨rfl, rfl⟩
            refine qS 65 rfl (ok_move · (.tmp rfl)) ?_
            refine qS 68 rfl (ok_extract · (.tmp rfl) rfl) ?_
            try dsimp only [w0, w1, w2, w3]
            refine qS 69 rfl (ok_extract · (.tmp rfl) rfl) ?_
            refine qS 13 rfl (ok_assign · (.tmp rfl)) ?_
            refine qS 14 rfl (ok_assign · (.tmp rfl)) ?_
            refine hr_region_end ?_
            try dsimp only [w0, w1, w2, w3]
            refine q_seq rfl ?_
            refine x_start (cls := [1, 1, 0, 0, 1, 2, 3, 0, 0, 0, 0, 0, 0, 0, 0, 0, 0, 0, 0, 0, 0, 0, 0, 0, 0, 2, 0, 0, 0, 0, 2, 0, 0, 0, 0, 2, 0, 0, 0, 0, 2, 0, 0, 0, 0, 2, 0, 0, 0, 0, 2, 0, 0, 2]) (rk := [0, 1, 2, 3, 4, 5, 6, 7, 8, 9, 10, 11, 12, 13, 14, 15, 16, 17, 18, 19, 20, 21, 22, 23, 24, 25, 26, 27, 28, 29, 30, 31, 32, 33, 34, 35, 36, 37, 38, 39, 40, 41, 42, 43, 44, 45, 46, 47, 48, 49, 50, 51, 52, 53]) rfl (by kernel_rfl) ?_
            obtain ⟨p69, hp69, h⟩ := bindo h
            refine xr 70 [8] rfl (ok_load_s · sc3 (.tmp rfl) rfl (ldI_out hp69)) ?_
            obtain ⟨p70, hp70, h⟩ := bindo h
            refine xr 71 [6] rfl (ok_load_s · sc3 (.tmp rfl) rfl (ldI_out hp70)) ?_
            refine xf 72 [70, 71] rfl (ok_ibin · (.tmp rfl) (.tmp rfl) rfl) ?_
            refine xf 73 [72] rfl (ok_move · (.tmp rfl)) ?_
            try dsimp only [w0, w1, w2, w3]
            rcases ifc h with ⟨hc71, h⟩ | ⟨hc71, h⟩
            · obtain ⟨p72, hp72, h⟩ := bindo h
              obtain ⟨p73, hp73, h⟩ := bindo h
              refine xrg 74 73 [3, 73] rfl (decide_eq_true hc71) (ok_load_s · sc54 (.tmp rfl) hp72 (ldP_out hp73)) ?_
              obtain ⟨p74, hp74, h⟩ := bindo h
              refine x_goE (e_call_g (dst := some 75) (t := 73) (ts := [74, 73]) rfl (by kernel_rfl) rfl rfl (decide_eq_true hc71) (.func _) (.cons (.tmp rfl) Evs.nil) (HInv.static pair_Rel_int_int_Len.at_ pair_Rel_int_int_Len.body (pair_Rel_int_int_Len.snd  hp74))) rfl trivial ?_
              obtain ⟨p75, hp75, h⟩ := bindo h
              obtain ⟨p76, hp76, h⟩ := bindo h
              obtain ⟨hg77, h⟩ := gd h
              refine x_late (r_op_g (dst := some 76) (t := 73) (ts := [6, 73]) rfl (by intro _ _ h; cases h) (by kernel_rfl) rfl rfl (decide_eq_true hc71) (fun _ ho => ok_load_s ho sc3 (.tmp rfl) rfl (ldI_out hp75))) rfl ⟨.inr (l_op_g (dst := some 76) (t := 73) (ts := [6, 73]) rfl (by intro _ _ h; cases h) (by kernel_rfl) rfl rfl (decide_eq_true hc71) (fun _ ho => ok_load_s ho sc3 (.tmp rfl) rfl (ldI_out (hp76.trans (congrArg some hg77))))), trivial⟩ ?_
              refine xfg 77 73 [75, 76, 73] rfl (decide_eq_true hc71) (ok_ibin · (.tmp rfl) (.tmp rfl) rfl) ?_
              try dsimp only [w0, w1, w2, w3]
              refine xf 78 [73, 77] rfl (ok_pick_tt · (.tmp rfl) (decide_eq_true hc71) (.tmp rfl)) ?_
              refine xf 79 [78] rfl (ok_move · (.tmp rfl)) ?_
              rcases ifc h with ⟨hc78, h⟩ | ⟨hc78, h⟩
              · refine xfg 80 79 [12, 79] rfl (decide_eq_true hc78) (ok_move · (.tmp rfl)) ?_
                refine xf 81 [79, 80] rfl (ok_pick_tt · (.tmp rfl) (decide_eq_true hc78) (.tmp rfl)) ?_
                try dsimp only [w0, w1, w2, w3]
                refine xf 82 [81] rfl (ok_move · (.tmp rfl)) ?_
                rcases ifc h with ⟨hc79, h⟩ | ⟨hc79, h⟩
                · refine xfg 83 82 [14, 82] rfl hc79 (ok_move · (.tmp rfl)) ?_
                  refine xf 84 [82, 83] rfl (ok_pick_tt · (.tmp rfl) hc79 (.tmp rfl)) ?_
                  refine xf 85 [84] rfl (ok_move · (.tmp rfl)) ?_
                  try dsimp only [w0, w1, w2, w3]
                  rcases ifc h with ⟨hc80, h⟩ | ⟨hc80, h⟩
                  · refine xfg 86 85 [11, 85] rfl hc80 (ok_move · (.tmp rfl)) ?_
                    refine xfg 87 85 [86, 85] rfl hc80 (ok_len_sl (q := Sl.a p67.1.1) (n := Sl.len p67.1.1) (z := Sl.cap p67.1.1) · rfl tu40 (.tmp rfl)) ?_
                    refine xfg 88 85 [13, 85] rfl hc80 (ok_move · (.tmp rfl)) ?_
                    refine xfg 89 85 [88, 85] rfl hc80 (ok_len_sl (q := Sl.a p68.1.1) (n := Sl.len p68.1.1) (z := Sl.cap p68.1.1) · rfl tu43 (.tmp rfl)) ?_
                    try dsimp only [w0, w1, w2, w3]
                    refine xfg 90 85 [87, 89, 85] rfl hc80 (ok_ibin · (.tmp rfl) (.tmp rfl) rfl) ?_
                    refine xfg 91 85 [90, 85] rfl hc80 (ok_ibin · (.tmp rfl) (.int _ _) rfl) ?_
                    refine xf 92 [85, 91] rfl (ok_pick_tt · (.tmp rfl) hc80 (.tmp rfl)) ?_
                    refine xf 93 [92] rfl (ok_move · (.tmp rfl)) ?_
                    try dsimp only [w0, w1, w2, w3]
                    rcases ifc h with ⟨hc81, h⟩ | ⟨hc81, h⟩
                    · refine xfg 94 93 [10, 93] rfl (decide_eq_true hc81) (ok_move · (.tmp rfl)) ?_
                      obtain ⟨p82, hp82, h⟩ := bindo h
                      refine x_goE (e_call_g (dst := some 95) (t := 93) (ts := [94, 93]) rfl (by kernel_rfl) rfl rfl (decide_eq_true hc81) (.func _) (.cons (.tmp rfl) (.cons (.int _ _) (.cons (.str _) Evs.nil))) (HInv.static pair_Rel_int_string_Add.at_ pair_Rel_int_string_Add.body (pair_Rel_int_string_Add.snd  hp82))) rfl ⟨.inl (by kernel_rfl), trivial⟩ ?_
                      refine xfg 96 93 [95, 93] rfl (decide_eq_true hc81) (ok_ibin · (.tmp rfl) (.int _ _) rfl) ?_
                      refine xf 97 [93, 96] rfl (ok_pick_tt · (.tmp rfl) (decide_eq_true hc81) (.tmp rfl)) ?_
                      try dsimp only [w0, w1, w2, w3]
                      refine xf 98 [97] rfl (ok_move · (.tmp rfl)) ?_
                      rcases ifc h with ⟨hc83, h⟩ | ⟨hc83, h⟩
                      · refine xfg 99 98 [10, 98] rfl (decide_eq_true hc83) (ok_move · (.tmp rfl)) ?_
                        obtain ⟨p84, hp84, h⟩ := bindo h
                        refine x_goE (e_call_g (dst := some 100) (t := 98) (ts := [99, 98]) rfl (by kernel_rfl) rfl rfl (decide_eq_true hc83) (.func _) (.cons (.tmp rfl) (.cons (.int _ _) (.cons (.str _) Evs.nil))) (HInv.static pair_Rel_int_string_Remove.at_ pair_Rel_int_string_Remove.body (pair_Rel_int_string_Remove.snd  hp84))) rfl ⟨.inl (by kernel_rfl), trivial⟩ ?_
                        refine xfg 101 98 [100, 98] rfl (decide_eq_true hc83) (ok_not · (.tmp rfl)) ?_
                        try dsimp only [w0, w1, w2, w3]
                        refine xf 102 [98, 101] rfl (ok_pick_tt · (.tmp rfl) (decide_eq_true hc83) (.tmp rfl)) ?_
                        refine xf 103 [102] rfl (ok_move · (.tmp rfl)) ?_
                        rcases ifc h with ⟨hc85, h⟩ | ⟨hc85, h⟩
                        · refine xfg 104 103 [10, 103] rfl hc85 (ok_move · (.tmp rfl)) ?_
                          obtain ⟨p86, hp86, h⟩ := bindo h
                          refine x_goE (e_call_g (dst := some 105) (t := 103) (ts := [104, 103]) rfl (by kernel_rfl) rfl rfl hc85 (.func _) (.cons (.tmp rfl) (.cons (.int _ _) Evs.nil)) (HInv.static pair_Rel_int_string_Drop.at_ pair_Rel_int_string_Drop.body (pair_Rel_int_string_Drop.snd hD hH hp86))) rfl ⟨.inl (by kernel_rfl), trivial⟩ ?_
                          try dsimp only [w0, w1, w2, w3]
                          refine xfg 106 103 [105, 103] rfl hc85 (ok_ibin · (.tmp rfl) (.int _ _) rfl) ?_
                          refine xf 107 [103, 106] rfl (ok_pick_tt · (.tmp rfl) hc85 (.tmp rfl)) ?_
                          refine xf 108 [107] rfl (ok_move · (.tmp rfl)) ?_
                          rcases ifc h with ⟨hc87, h⟩ | ⟨hc87, h⟩
                          · refine xfg 109 108 [10, 108] rfl (decide_eq_true hc87) (ok_move · (.tmp rfl)) ?_
                            try dsimp only [w0, w1, w2, w3]
                            obtain ⟨p88, hp88, h⟩ := bindo h
                            refine x_goE (e_call_g (dst := some 110) (t := 108) (ts := [109, 108]) rfl (by kernel_rfl) rfl rfl (decide_eq_true hc87) (.func _) (.cons (.tmp rfl) (.cons (.int _ _) (.cons (.str _) Evs.nil))) (HInv.static pair_Rel_int_string_Has.at_ pair_Rel_int_string_Has.body (pair_Rel_int_string_Has.snd  hp88))) rfl ⟨.inl (by kernel_rfl), trivial⟩ ?_
                            refine xfg 111 108 [110, 108] rfl (decide_eq_true hc87) (ok_not · (.tmp rfl)) ?_
                            refine xf 112 [108, 111] rfl (ok_pick_tt · (.tmp rfl) (decide_eq_true hc87) (.tmp rfl)) ?_
                            refine xf 113 [112] rfl (ok_move · (.tmp rfl)) ?_
                            try dsimp only [w0, w1, w2, w3]
                            rcases ifc h with ⟨hc89, h⟩ | ⟨hc89, h⟩
                            · refine xfg 114 113 [10, 113] rfl hc89 (ok_move · (.tmp rfl)) ?_
                              obtain ⟨p90, hp90, h⟩ := bindo h
                              refine x_goE (e_call_g (dst := some 115) (t := 113) (ts := [114, 113]) rfl (by kernel_rfl) rfl rfl hc89 (.func _) (.cons (.tmp rfl) (.cons (.int _ _) Evs.nil)) (HInv.static pair_Rel_int_string_Count.at_ pair_Rel_int_string_Count.body (pair_Rel_int_string_Count.snd  hp90))) rfl ⟨.inl (by kernel_rfl), trivial⟩ ?_
                              refine xfg 116 113 [115, 113] rfl hc89 (ok_ibin · (.tmp rfl) (.int _ _) rfl) ?_
                              refine xf 117 [113, 116] rfl (ok_pick_tt · (.tmp rfl) hc89 (.tmp rfl)) ?_
                              try dsimp only [w0, w1, w2, w3]
                              refine xf 118 [117] rfl (ok_move · (.tmp rfl)) ?_
                              rcases ifc h with ⟨hc91, h⟩ | ⟨hc91, h⟩
                              · refine xfg 119 118 [10, 118] rfl (decide_eq_true hc91) (ok_move · (.tmp rfl)) ?_
                                obtain ⟨p92, hp92, h⟩ := bindo h
                                refine x_goE (e_call_g (dst := some 120) (t := 118) (ts := [119, 118]) rfl (by kernel_rfl) rfl rfl (decide_eq_true hc91) (.func _) (.cons (.tmp rfl) Evs.nil) (HInv.static pair_Rel_int_string_Len.at_ pair_Rel_int_string_Len.body (pair_Rel_int_string_Len.snd  hp92))) rfl ⟨.inl (by kernel_rfl), trivial⟩ ?_
                                refine xfg 121 118 [120, 118] rfl (decide_eq_true hc91) (ok_ibin · (.tmp rfl) (.int _ _) rfl) ?_
                                try dsimp only [w0, w1, w2, w3]
                                refine xf 122 [118, 121] rfl (ok_pick_tt · (.tmp rfl) (decide_eq_true hc91) (.tmp rfl)) ?_
                                obtain ⟨p93, hp93, h⟩ := bindo h
                                obtain ⟨p94, hp94, h⟩ := bindo h
                                refine x_goE (e_op (dst := none) (ts := [2, 122]) rfl (by intro _ _ h; cases h) (by kernel_rfl) (fun _ ho => ok_store_s (v := (.bool (decide (p92.1 = 0)))) ho sz4 (.tmp rfl) hp93 (.tmp rfl) rfl hp94)) rfl ⟨.inl (by kernel_rfl), trivial⟩ ?_
                                refine x_rest rfl ?_
                                refine hr_region_end ?_
                                try dsimp only [w0, w1, w2, w3]
                                obtain ⟨p95, hp95, h⟩ := bindo h
                                obtain ⟨p96, hp96, h⟩ := bindo h
                                obtain ⟨p97, hp97, h⟩ := bindo h
                                cases h
                                exact q_ret rfl at_.at_ hp95 (resL1 rfl (.cell rfl hp96 sc4 (ldB_out hp97))) ⟨rfl, rfl⟩
                              · refine xfs 119 118 [10, 118] rfl (decide_eq_false hc91) ?_
                                refine zes 120 118 [119, 118] rfl (decide_eq_false hc91) ⟨.inl (by kernel_rfl), trivial⟩ ?_
                                refine xfs 121 118 [120, 118] rfl (decide_eq_false hc91) ?_
                                try dsimp only [w0, w1, w2, w3]
                                refine xf 122 [118, 121] rfl (ok_pick_ff · (.tmp rfl) (decide_eq_false hc91) (.bool _)) ?_
                                obtain ⟨p98, hp98, h⟩ := bindo h
                                obtain ⟨p99, hp99, h⟩ := bindo h
                                refine x_goE (e_op (dst := none) (ts := [2, 122]) rfl (by intro _ _ h; cases h) (by kernel_rfl) (fun _ ho => ok_store_s (v := (.bool false)) ho sz4 (.tmp rfl) hp98 (.tmp rfl) rfl hp99)) rfl ⟨.inl (by kernel_rfl), trivial⟩ ?_
                                refine x_rest rfl ?_
                                refine hr_region_end ?_
                                try dsimp only [w0, w1, w2, w3]
                                obtain ⟨p100, hp100, h⟩ := bindo h
                                obtain ⟨p101, hp101, h⟩ := bindo h
                                obtain ⟨p102, hp102, h⟩ := bindo h
                                cases h
                                exact q_ret rfl at_.at_ hp100 (resL1 rfl (.cell rfl hp101 sc4 (ldB_out hp102))) ⟨rfl, rfl⟩
                            · refine xfs 114 113 [10, 113] rfl (bfalse hc89) ?_
                              refine zes 115 113 [114, 113] rfl (bfalse hc89) ⟨.inl (by kernel_rfl), trivial⟩ ?_
                              refine xfs 116 113 [115, 113] rfl (bfalse hc89) ?_
                              refine xf 117 [113, 116] rfl (ok_pick_ff · (.tmp rfl) (bfalse hc89) (.bool _)) ?_
                              try dsimp only [w0, w1, w2, w3]
                              refine xf 118 [117] rfl (ok_move · (.tmp rfl)) ?_
                              refine xfs 119 118 [10, 118] rfl rfl ?_
                              refine zes 120 118 [119, 118] rfl rfl ⟨.inl (by kernel_rfl), trivial⟩ ?_
                              refine xfs 121 118 [120, 118] rfl rfl ?_
                              try dsimp only [w0, w1, w2, w3]
                              refine xf 122 [118, 121] rfl (ok_pick_ff · (.tmp rfl) rfl (.bool _)) ?_
                              obtain ⟨p103, hp103, h⟩ := bindo h
                              obtain ⟨p104, hp104, h⟩ := bindo h
                              refine x_goE (e_op (dst := none) (ts := [2, 122]) rfl (by intro _ _ h; cases h) (by kernel_rfl) (fun _ ho => ok_store_s (v := (.bool false)) ho sz4 (.tmp rfl) hp103 (.tmp rfl) rfl hp104)) rfl ⟨.inl (by kernel_rfl), trivial⟩ ?_
                              refine x_rest rfl ?_
                              refine hr_region_end ?_
                              try dsimp only [w0, w1, w2, w3]
                              obtain ⟨p105, hp105, h⟩ := bindo h
                              obtain ⟨p106, hp106, h⟩ := bindo h
                              obtain ⟨p107, hp107, h⟩ := bindo h
                              cases h
                              exact q_ret rfl at_.at_ hp105 (resL1 rfl (.cell rfl hp106 sc4 (ldB_out hp107))) ⟨rfl, rfl⟩
                          · refine xfs 109 108 [10, 108] rfl (decide_eq_false hc87) ?_
                            try dsimp only [w0, w1, w2, w3]
                            refine zes 110 108 [109, 108] rfl (decide_eq_false hc87) ⟨.inl (by kernel_rfl), trivial⟩ ?_
                            refine xfs 111 108 [110, 108] rfl (decide_eq_false hc87) ?_
                            refine xf 112 [108, 111] rfl (ok_pick_ff · (.tmp rfl) (decide_eq_false hc87) (.bool _)) ?_
                            refine xf 113 [112] rfl (ok_move · (.tmp rfl)) ?_
                            try dsimp only [w0, w1, w2, w3]
                            refine xfs 114 113 [10, 113] rfl rfl ?_
                            refine zes 115 113 [114, 113] rfl rfl ⟨.inl (by kernel_rfl), trivial⟩ ?_
                            refine xfs 116 113 [115, 113] rfl rfl ?_
                            refine xf 117 [113, 116] rfl (ok_pick_ff · (.tmp rfl) rfl (.bool _)) ?_
                            try dsimp only [w0, w1, w2, w3]
                            refine xf 118 [117] rfl (ok_move · (.tmp rfl)) ?_
                            refine xfs 119 118 [10, 118] rfl rfl ?_
                            refine zes 120 118 [119, 118] rfl rfl ⟨.inl (by kernel_rfl), trivial⟩ ?_
                            refine xfs 121 118 [120, 118] rfl rfl ?_
                            try dsimp only [w0, w1, w2, w3]
                            refine xf 122 [118, 121] rfl (ok_pick_ff · (.tmp rfl) rfl (.bool _)) ?_
                            obtain ⟨p108, hp108, h⟩ := bindo h
                            obtain ⟨p109, hp109, h⟩ := bindo h
                            refine x_goE (e_op (dst := none) (ts := [2, 122]) rfl (by intro _ _ h; cases h) (by kernel_rfl) (fun _ ho => ok_store_s (v := (.bool false)) ho sz4 (.tmp rfl) hp108 (.tmp rfl) rfl hp109)) rfl ⟨.inl (by kernel_rfl), trivial⟩ ?_
                            refine x_rest rfl ?_
                            refine hr_region_end ?_
                            try dsimp only [w0, w1, w2, w3]
                            obtain ⟨p110, hp110, h⟩ := bindo h
                            obtain ⟨p111, hp111, h⟩ := bindo h
                            obtain ⟨p112, hp112, h⟩ := bindo h
                            cases h
                            exact q_ret rfl at_.at_ hp110 (resL1 rfl (.cell rfl hp111 sc4 (ldB_out hp112))) ⟨rfl, rfl⟩
                        · refine xfs 104 103 [10, 103] rfl (bfalse hc85) ?_
                          refine zes 105 103 [104, 103] rfl (bfalse hc85) ⟨.inl (by kernel_rfl), trivial⟩ ?_
                          try dsimp only [w0, w1, w2, w3]
                          refine xfs 106 103 [105, 103] rfl (bfalse hc85) ?_
                          refine xf 107 [103, 106] rfl (ok_pick_ff · (.tmp rfl) (bfalse hc85) (.bool _)) ?_
                          refine xf 108 [107] rfl (ok_move · (.tmp rfl)) ?_
                          refine xfs 109 108 [10, 108] rfl rfl ?_
                          try dsimp only [w0, w1, w2, w3]
                          refine zes 110 108 [109, 108] rfl rfl ⟨.inl (by kernel_rfl), trivial⟩ ?_
                          refine xfs 111 108 [110, 108] rfl rfl ?_
                          refine xf 112 [108, 111] rfl (ok_pick_ff · (.tmp rfl) rfl (.bool _)) ?_
                          refine xf 113 [112] rfl (ok_move · (.tmp rfl)) ?_
                          try dsimp only [w0, w1, w2, w3]
                          refine xfs 114 113 [10, 113] rfl rfl ?_
                          refine zes 115 113 [114, 113] rfl rfl ⟨.inl (by kernel_rfl), trivial⟩ ?_
                          refine xfs 116 113 [115, 113] rfl rfl ?_
                          refine xf 117 [113, 116] rfl (ok_pick_ff · (.tmp rfl) rfl (.bool _)) ?_
                          try dsimp only [w0, w1, w2, w3]
                          refine xf 118 [117] rfl (ok_move · (.tmp rfl)) ?_
                          refine xfs 119 118 [10, 118] rfl rfl ?_
                          refine zes 120 118 [119, 118] rfl rfl ⟨.inl (by kernel_rfl), trivial⟩ ?_
                          refine xfs 121 118 [120, 118] rfl rfl ?_
                          try dsimp only [w0, w1, w2, w3]
                          refine xf 122 [118, 121] rfl (ok_pick_ff · (.tmp rfl) rfl (.bool _)) ?_
                          obtain ⟨p113, hp113, h⟩ := bindo h
                          obtain ⟨p114, hp114, h⟩ := bindo h
                          refine x_goE (e_op (dst := none) (ts := [2, 122]) rfl (by intro _ _ h; cases h) (by kernel_rfl) (fun _ ho => ok_store_s (v := (.bool false)) ho sz4 (.tmp rfl) hp113 (.tmp rfl) rfl hp114)) rfl ⟨.inl (by kernel_rfl), trivial⟩ ?_
                          refine x_rest rfl ?_
                          refine hr_region_end ?_
                          try dsimp only [w0, w1, w2, w3]
                          obtain ⟨p115, hp115, h⟩ := bindo h
                          obtain ⟨p116, hp116, h⟩ := bindo h
                          obtain ⟨p117, hp117, h⟩ := bindo h
                          cases h
                          exact q_ret rfl at_.at_ hp115 (resL1 rfl (.cell rfl hp116 sc4 (ldB_out hp117))) ⟨rfl, rfl⟩
                      · refine xfs 99 98 [10, 98] rfl (decide_eq_false hc83) ?_
                        refine zes 100 98 [99, 98] rfl (decide_eq_false hc83) ⟨.inl (by kernel_rfl), trivial⟩ ?_
                        refine xfs 101 98 [100, 98] rfl (decide_eq_false hc83) ?_
                        try dsimp only [w0, w1, w2, w3]
                        refine xf 102 [98, 101] rfl (ok_pick_ff · (.tmp rfl) (decide_eq_false hc83) (.bool _)) ?_
                        refine xf 103 [102] rfl (ok_move · (.tmp rfl)) ?_
                        refine xfs 104 103 [10, 103] rfl rfl ?_
                        refine zes 105 103 [104, 103] rfl rfl ⟨.inl (by kernel_rfl), trivial⟩ ?_
                        try dsimp only [w0, w1, w2, w3]
                        refine xfs 106 103 [105, 103] rfl rfl ?_
                        refine xf 107 [103, 106] rfl (ok_pick_ff · (.tmp rfl) rfl (.bool _)) ?_
                        refine xf 108 [107] rfl (ok_move · (.tmp rfl)) ?_
                        refine xfs 109 108 [10, 108] rfl rfl ?_
                        try dsimp only [w0, w1, w2, w3]
                        refine zes 110 108 [109, 108] rfl rfl ⟨.inl (by kernel_rfl), trivial⟩ ?_
                        refine xfs 111 108 [110, 108] rfl rfl ?_
                        refine xf 112 [108, 111] rfl (ok_pick_ff · (.tmp rfl) rfl (.bool _)) ?_
                        refine xf 113 [112] rfl (ok_move · (.tmp rfl)) ?_
                        try dsimp only [w0, w1, w2, w3]
                        refine xfs 114 113 [10, 113] rfl rfl ?_
                        refine zes 115 113 [114, 113] rfl rfl ⟨.inl (by kernel_rfl), trivial⟩ ?_
                        refine xfs 116 113 [115, 113] rfl rfl ?_
                        refine xf 117 [113, 116] rfl (ok_pick_ff · (.tmp rfl) rfl (.bool _)) ?_
                        try dsimp only [w0, w1, w2, w3]
                        refine xf 118 [117] rfl (ok_move · (.tmp rfl)) ?_
                        refine xfs 119 118 [10, 118] rfl rfl ?_
                        refine zes 120 118 [119, 118] rfl rfl ⟨.inl (by kernel_rfl), trivial⟩ ?_
                        refine xfs 121 118 [120, 118] rfl rfl ?_
                        try dsimp only [w0, w1, w2, w3]
                        refine xf 122 [118, 121] rfl (ok_pick_ff · (.tmp rfl) rfl (.bool _)) ?_
                        obtain ⟨p118, hp118, h⟩ := bindo h
                        obtain ⟨p119, hp119, h⟩ := bindo h
                        refine x_goE (e_op (dst := none) (ts := [2, 122]) rfl (by intro _ _ h; cases h) (by kernel_rfl) (fun _ ho => ok_store_s (v := (.bool false)) ho sz4 (.tmp rfl) hp118 (.tmp rfl) rfl hp119)) rfl ⟨.inl (by kernel_rfl), trivial⟩ ?_
                        refine x_rest rfl ?_
                        refine hr_region_end ?_
                        try dsimp only [w0, w1, w2, w3]
                        obtain ⟨p120, hp120, h⟩ := bindo h
                        obtain ⟨p121, hp121, h⟩ := bindo h
                        obtain ⟨p122, hp122, h⟩ := bindo h
                        cases h
                        exact q_ret rfl at_.at_ hp120 (resL1 rfl (.cell rfl hp121 sc4 (ldB_out hp122))) ⟨rfl, rfl⟩
                    · refine xfs 94 93 [10, 93] rfl (decide_eq_false hc81) ?_
                      refine zes 95 93 [94, 93] rfl (decide_eq_false hc81) ⟨.inl (by kernel_rfl), trivial⟩ ?_
                      refine xfs 96 93 [95, 93] rfl (decide_eq_false hc81) ?_
                      refine xf 97 [93, 96] rfl (ok_pick_ff · (.tmp rfl) (decide_eq_false hc81) (.bool _)) ?_
                      try dsimp only [w0, w1, w2, w3]
                      refine xf 98 [97] rfl (ok_move · (.tmp rfl)) ?_
                      refine xfs 99 98 [10, 98] rfl rfl ?_
                      refine zes 100 98 [99, 98] rfl rfl ⟨.inl (by kernel_rfl), trivial⟩ ?_
                      refine xfs 101 98 [100, 98] rfl rfl ?_
                      try dsimp only [w0, w1, w2, w3]
                      refine xf 102 [98, 101] rfl (ok_pick_ff · (.tmp rfl) rfl (.bool _)) ?_
                      refine xf 103 [102] rfl (ok_move · (.tmp rfl)) ?_
                      refine xfs 104 103 [10, 103] rfl rfl ?_
                      refine zes 105 103 [104, 103] rfl rfl ⟨.inl (by kernel_rfl), trivial⟩ ?_
                      try dsimp only [w0, w1, w2, w3]
                      refine xfs 106 103 [105, 103] rfl rfl ?_
                      refine xf 107 [103, 106] rfl (ok_pick_ff · (.tmp rfl) rfl (.bool _)) ?_
                      refine xf 108 [107] rfl (ok_move · (.tmp rfl)) ?_
                      refine xfs 109 108 [10, 108] rfl rfl ?_
                      try dsimp only [w0, w1, w2, w3]
                      refine zes 110 108 [109, 108] rfl rfl ⟨.inl (by kernel_rfl), trivial⟩ ?_
                      refine xfs 111 108 [110, 108] rfl rfl ?_
                      refine xf 112 [108, 111] rfl (ok_pick_ff · (.tmp rfl) rfl (.bool _)) ?_
                      refine xf 113 [112] rfl (ok_move · (.tmp rfl)) ?_
                      try dsimp only [w0, w1, w2, w3]
                      refine xfs 114 113 [10, 113] rfl rfl ?_
                      refine zes 115 113 [114, 113] rfl rfl ⟨.inl (by kernel_rfl), trivial⟩ ?_
                      refine xfs 116 113 [115, 113] rfl rfl ?_
                      refine xf 117 [113, 116] rfl (ok_pick_ff · (.tmp rfl) rfl (.bool _)) ?_
                      try dsimp only [w0, w1, w2, w3]
                      refine xf 118 [117] rfl (ok_move · (.tmp rfl)) ?_
                      refine xfs 119 118 [10, 118] rfl rfl ?_
                      refine zes 120 118 [119, 118] rfl rfl ⟨.inl (by kernel_rfl), trivial⟩ ?_
                      refine xfs 121 118 [120, 118] rfl rfl ?_
                      try dsimp only [w0, w1, w2, w3]
                      refine xf 122 [118, 121] rfl (ok_pick_ff · (.tmp rfl) rfl (.bool _)) ?_
                      obtain ⟨p123, hp123, h⟩ := bindo h
                      obtain ⟨p124, hp124, h⟩ := bindo h
                      refine x_goE (e_op (dst := none) (ts := [2, 122]) rfl (by intro _ _ h; cases h) (by kernel_rfl) (fun _ ho => ok_store_s (v := (.bool false)) ho sz4 (.tmp rfl) hp123 (.tmp rfl) rfl hp124)) rfl ⟨.inl (by kernel_rfl), trivial⟩ ?_
                      refine x_rest rfl ?_
                      refine hr_region_end ?_
                      try dsimp only [w0, w1, w2, w3]
                      obtain ⟨p125, hp125, h⟩ := bindo h
                      obtain ⟨p126, hp126, h⟩ := bindo h
                      obtain ⟨p127, hp127, h⟩ := bindo h
                      cases h
                      exact q_ret rfl at_.at_ hp125 (resL1 rfl (.cell rfl hp126 sc4 (ldB_out hp127))) ⟨rfl, rfl⟩
                  · refine xfs 86 85 [11, 85] rfl (bfalse hc80) ?_
                    refine xfs 87 85 [86, 85] rfl (bfalse hc80) ?_
                    refine xfs 88 85 [13, 85] rfl (bfalse hc80) ?_
                    refine xfs 89 85 [88, 85] rfl (bfalse hc80) ?_
                    try dsimp only [w0, w1, w2, w3]
                    refine xfs 90 85 [87, 89, 85] rfl (bfalse hc80) ?_
                    refine xfs 91 85 [90, 85] rfl (bfalse hc80) ?_
                    refine xf 92 [85, 91] rfl (ok_pick_ff · (.tmp rfl) (bfalse hc80) (.bool _)) ?_
                    refine xf 93 [92] rfl (ok_move · (.tmp rfl)) ?_
                    try dsimp only [w0, w1, w2, w3]
                    refine xfs 94 93 [10, 93] rfl rfl ?_
                    refine zes 95 93 [94, 93] rfl rfl ⟨.inl (by kernel_rfl), trivial⟩ ?_
                    refine xfs 96 93 [95, 93] rfl rfl ?_
                    refine xf 97 [93, 96] rfl (ok_pick_ff · (.tmp rfl) rfl (.bool _)) ?_
                    try dsimp only [w0, w1, w2, w3]
                    refine xf 98 [97] rfl (ok_move · (.tmp rfl)) ?_
                    refine xfs 99 98 [10, 98] rfl rfl ?_
                    refine zes 100 98 [99, 98] rfl rfl ⟨.inl (by kernel_rfl), trivial⟩ ?_
                    refine xfs 101 98 [100, 98] rfl rfl ?_
                    try dsimp only [w0, w1, w2, w3]
                    refine xf 102 [98, 101] rfl (ok_pick_ff · (.tmp rfl) rfl (.bool _)) ?_
                    refine xf 103 [102] rfl (ok_move · (.tmp rfl)) ?_
                    refine xfs 104 103 [10, 103] rfl rfl ?_
                    refine zes 105 103 [104, 103] rfl rfl ⟨.inl (by kernel_rfl), trivial⟩ ?_
                    try dsimp only [w0, w1, w2, w3]
                    refine xfs 106 103 [105, 103] rfl rfl ?_
                    refine xf 107 [103, 106] rfl (ok_pick_ff · (.tmp rfl) rfl (.bool _)) ?_
                    refine xf 108 [107] rfl (ok_move · (.tmp rfl)) ?_
                    refine xfs 109 108 [10, 108] rfl rfl ?_
                    try dsimp only [w0, w1, w2, w3]
                    refine zes 110 108 [109, 108] rfl rfl ⟨.inl (by kernel_rfl), trivial⟩ ?_
                    refine xfs 111 108 [110, 108] rfl rfl ?_
                    refine xf 112 [108, 111] rfl (ok_pick_ff · (.tmp rfl) rfl (.bool _)) ?_
                    refine xf 113 [112] rfl (ok_move · (.tmp rfl)) ?_
                    try dsimp only [w0, w1, w2, w3]
                    refine xfs 114 113 [10, 113] rfl rfl ?_
                    refine zes 115 113 [114, 113] rfl rfl ⟨.inl (by kernel_rfl), trivial⟩ ?_
                    refine xfs 116 113 [115, 113] rfl rfl ?_
                    refine xf 117 [113, 116] rfl (ok_pick_ff · (.tmp rfl) rfl (.bool _)) ?_
                    try dsimp only [w0, w1, w2, w3]
                    refine xf 118 [117] rfl (ok_move · (.tmp rfl)) ?_
                    refine xfs 119 118 [10, 118] rfl rfl ?_
                    refine zes 120 118 [119, 118] rfl rfl ⟨.inl (by kernel_rfl), trivial⟩ ?_
                    refine xfs 121 118 [120, 118] rfl rfl ?_
                    try dsimp only [w0, w1, w2, w3]
                    refine xf 122 [118, 121] rfl (ok_pick_ff · (.tmp rfl) rfl (.bool _)) ?_
                    obtain ⟨p128, hp128, h⟩ := bindo h
                    obtain ⟨p129, hp129, h⟩ := bindo h
                    refine x_goE (e_op (dst := none) (ts := [2, 122]) rfl (by intro _ _ h; cases h) (by kernel_rfl) (fun _ ho => ok_store_s (v := (.bool false)) ho sz4 (.tmp rfl) hp128 (.tmp rfl) rfl hp129)) rfl ⟨.inl (by kernel_rfl), trivial⟩ ?_
                    refine x_rest rfl ?_
                    refine hr_region_end ?_
                    try dsimp only [w0, w1, w2, w3]
                    obtain ⟨p130, hp130, h⟩ := bindo h
                    obtain ⟨p131, hp131, h⟩ := bindo h
                    obtain ⟨p132, hp132, h⟩ := bindo h
                    cases h
                    exact q_ret rfl at_.at_ hp130 (resL1 rfl (.cell rfl hp131 sc4 (ldB_out hp132))) ⟨rfl, rfl⟩
                · refine xfs 83 82 [14, 82] rfl (bfalse hc79) ?_
                  refine xf 84 [82, 83] rfl (ok_pick_ff · (.tmp rfl) (bfalse hc79) (.bool _)) ?_
                  refine xf 85 [84] rfl (ok_move · (.tmp rfl)) ?_
                  try dsimp only [w0, w1, w2, w3]
                  refine xfs 86 85 [11, 85] rfl rfl ?_
                  refine xfs 87 85 [86, 85] rfl rfl ?_
                  refine xfs 88 85 [13, 85] rfl rfl ?_
                  refine xfs 89 85 [88, 85] rfl rfl ?_
                  try dsimp only [w0, w1, w2, w3]
                  refine xfs 90 85 [87, 89, 85] rfl rfl ?_
                  refine xfs 91 85 [90, 85] rfl rfl ?_
                  refine xf 92 [85, 91] rfl (ok_pick_ff · (.tmp rfl) rfl (.bool _)) ?_
                  refine xf 93 [92] rfl (ok_move · (.tmp rfl)) ?_
                  try dsimp only [w0, w1, w2, w3]
                  refine xfs 94 93 [10, 93] rfl rfl ?_
                  refine zes 95 93 [94, 93] rfl rfl ⟨.inl (by kernel_rfl), trivial⟩ ?_
                  refine xfs 96 93 [95, 93] rfl rfl ?_
                  refine xf 97 [93, 96] rfl (ok_pick_ff · (.tmp rfl) rfl (.bool _)) ?_
                  try dsimp only [w0, w1, w2, w3]
                  refine xf 98 [97] rfl (ok_move · (.tmp rfl)) ?_
                  refine xfs 99 98 [10, 98] rfl rfl ?_
                  refine zes 100 98 [99, 98] rfl rfl ⟨.inl (by kernel_rfl), trivial⟩ ?_
                  refine xfs 101 98 [100, 98] rfl rfl ?_
                  try dsimp only [w0, w1, w2, w3]
                  refine xf 102 [98, 101] rfl (ok_pick_ff · (.tmp rfl) rfl (.bool _)) ?_
                  refine xf 103 [102] rfl (ok_move · (.tmp rfl)) ?_
                  refine xfs 104 103 [10, 103] rfl rfl ?_
                  refine zes 105 103 [104, 103] rfl rfl ⟨.inl (by kernel_rfl), trivial⟩ ?_
                  try dsimp only [w0, w1, w2, w3]
                  refine xfs 106 103 [105, 103] rfl rfl ?_
                  refine xf 107 [103, 106] rfl (ok_pick_ff · (.tmp rfl) rfl (.bool _)) ?_
                  refine xf 108 [107] rfl (ok_move · (.tmp rfl)) ?_
                  refine xfs 109 108 [10, 108] rfl rfl ?_
                  try dsimp only [w0, w1, w2, w3]
                  refine zes 110 108 [109, 108] rfl rfl ⟨.inl (by kernel_rfl), trivial⟩ ?_
                  refine xfs 111 108 [110, 108] rfl rfl ?_
                  refine xf 112 [108, 111] rfl (ok_pick_ff · (.tmp rfl) rfl (.bool _)) ?_
                  refine xf 113 [112] rfl (ok_move · (.tmp rfl)) ?_
                  try dsimp only [w0, w1, w2, w3]
                  refine xfs 114 113 [10, 113] rfl rfl ?_
                  refine zes 115 113 [114, 113] rfl rfl ⟨.inl (by kernel_rfl), trivial⟩ ?_
                  refine xfs 116 113 [115, 113] rfl rfl ?_
                  refine xf 117 [113, 116] rfl (ok_pick_ff · (.tmp rfl) rfl (.bool _)) ?_
                  try dsimp only [w0, w1, w2, w3]
                  refine xf 118 [117] rfl (ok_move · (.tmp rfl)) ?_
                  refine xfs 119 118 [10, 118] rfl rfl ?_
                  refine zes 120 118 [119, 118] rfl rfl ⟨.inl (by kernel_rfl), trivial⟩ ?_
                  refine xfs 121 118 [120, 118] rfl rfl ?_
                  try dsimp only [w0, w1, w2, w3]
                  refine xf 122 [118, 121] rfl (ok_pick_ff · (.tmp rfl) rfl (.bool _)) ?_
                  obtain ⟨p133, hp133, h⟩ := bindo h
                  obtain ⟨p134, hp134, h⟩ := bindo h
                  refine x_goE (e_op (dst := none) (ts := [2, 122]) rfl (by intro _ _ h; cases h) (by kernel_rfl) (fun _ ho => ok_store_s (v := (.bool false)) ho sz4 (.tmp rfl) hp133 (.tmp rfl) rfl hp134)) rfl ⟨.inl (by kernel_rfl), trivial⟩ ?_
                  refine x_rest rfl ?_
                  refine hr_region_end ?_
                  try dsimp only [w0, w1, w2, w3]
                  obtain ⟨p135, hp135, h⟩ := bindo h
                  obtain ⟨p136, hp136, h⟩ := bindo h
                  obtain ⟨p137, hp137, h⟩ := bindo h
                  cases h
                  exact q_ret rfl at_.at_ hp135 (resL1 rfl (.cell rfl hp136 sc4 (ldB_out hp137))) ⟨rfl, rfl⟩
              · refine xfs 80 79 [12, 79] rfl (decide_eq_false hc78) ?_
                refine xf 81 [79, 80] rfl (ok_pick_ff · (.tmp rfl) (decide_eq_false hc78) (.bool _)) ?_
                try dsimp only [w0, w1, w2, w3]
                refine xf 82 [81] rfl (ok_move · (.tmp rfl)) ?_
                refine xfs 83 82 [14, 82] rfl rfl ?_
                refine xf 84 [82, 83] rfl (ok_pick_ff · (.tmp rfl) rfl (.bool _)) ?_
                refine xf 85 [84] rfl (ok_move · (.tmp rfl)) ?_
                try dsimp only [w0, w1, w2, w3]
                refine xfs 86 85 [11, 85] rfl rfl ?_
                refine xfs 87 85 [86, 85] rfl rfl ?_
                refine xfs 88 85 [13, 85] rfl rfl ?_
                refine xfs 89 85 [88, 85] rfl rfl ?_
                try dsimp only [w0, w1, w2, w3]
                refine xfs 90 85 [87, 89, 85] rfl rfl ?_
                refine xfs 91 85 [90, 85] rfl rfl ?_
                refine xf 92 [85, 91] rfl (ok_pick_ff · (.tmp rfl) rfl (.bool _)) ?_
                refine xf 93 [92] rfl (ok_move · (.tmp rfl)) ?_
                try dsimp only [w0, w1, w2, w3]
                refine xfs 94 93 [10, 93] rfl rfl ?_
                refine zes 95 93 [94, 93] rfl rfl ⟨.inl (by kernel_rfl), trivial⟩ ?_
                refine xfs 96 93 [95, 93] rfl rfl ?_
                refine xf 97 [93, 96] rfl (ok_pick_ff · (.tmp rfl) rfl (.bool _)) ?_
                try dsimp only [w0, w1, w2, w3]
                refine xf 98 [97] rfl (ok_move · (.tmp rfl)) ?_
                refine xfs 99 98 [10, 98] rfl rfl ?_
                refine zes 100 98 [99, 98] rfl rfl ⟨.inl (by kernel_rfl), trivial⟩ ?_
                refine xfs 101 98 [100, 98] rfl rfl ?_
                try dsimp only [w0, w1, w2, w3]
                refine xf 102 [98, 101] rfl (ok_pick_ff · (.tmp rfl) rfl (.bool _)) ?_
                refine xf 103 [102] rfl (ok_move · (.tmp rfl)) ?_
                refine xfs 104 103 [10, 103] rfl rfl ?_
                refine zes 105 103 [104, 103] rfl rfl ⟨.inl (by kernel_rfl), trivial⟩ ?_
                try dsimp only [w0, w1, w2, w3]
                refine xfs 106 103 [105, 103] rfl rfl ?_
                refine xf 107 [103, 106] rfl (ok_pick_ff · (.tmp rfl) rfl (.bool _)) ?_
                refine xf 108 [107] rfl (ok_move · (.tmp rfl)) ?_
                refine xfs 109 108 [10, 108] rfl rfl ?_
                try dsimp only [w0, w1, w2, w3]
                refine zes 110 108 [109, 108] rfl rfl ⟨.inl (by kernel_rfl), trivial⟩ ?_
                refine xfs 111 108 [110, 108] rfl rfl ?_
                refine xf 112 [108, 111] rfl (ok_pick_ff · (.tmp rfl) rfl (.bool _)) ?_
                refine xf 113 [112] rfl (ok_move · (.tmp rfl)) ?_
                try dsimp only [w0, w1, w2, w3]
                refine xfs 114 113 [10, 113] rfl rfl ?_
                refine zes 115 113 [114, 113] rfl rfl ⟨.inl (by kernel_rfl), trivial⟩ ?_
                refine xfs 116 113 [115, 113] rfl rfl ?_
                refine xf 117 [113, 116] rfl (ok_pick_ff · (.tmp rfl) rfl (.bool _)) ?_
                try dsimp only [w0, w1, w2, w3]
                refine xf 118 [117] rfl (ok_move · (.tmp rfl)) ?_
                refine xfs 119 118 [10, 118] rfl rfl ?_
                refine zes 120 118 [119, 118] rfl rfl ⟨.inl (by kernel_rfl), trivial⟩ ?_
                refine xfs 121 118 [120, 118] rfl rfl ?_
                try dsimp only [w0, w1, w2, w3]
                refine xf 122 [118, 121] rfl (ok_pick_ff · (.tmp rfl) rfl (.bool _)) ?_
                obtain ⟨p138, hp138, h⟩ := bindo h
                obtain ⟨p139, hp139, h⟩ := bindo h
                refine x_goE (e_op (dst := none) (ts := [2, 122]) rfl (by intro _ _ h; cases h) (by kernel_rfl) (fun _ ho => ok_store_s (v := (.bool false)) ho sz4 (.tmp rfl) hp138 (.tmp rfl) rfl hp139)) rfl ⟨.inl (by kernel_rfl), trivial⟩ ?_
                refine x_rest rfl ?_
                refine hr_region_end ?_
                try dsimp only [w0, w1, w2, w3]
                obtain ⟨p140, hp140, h⟩ := bindo h
                obtain ⟨p141, hp141, h⟩ := bindo h
                obtain ⟨p142, hp142, h⟩ := bindo h
                cases h
                exact q_ret rfl at_.at_ hp140 (resL1 rfl (.cell rfl hp141 sc4 (ldB_out hp142))) ⟨rfl, rfl⟩
            · refine xrs 74 73 [3, 73] rfl (decide_eq_false hc71) ?_
              refine zes 75 73 [74, 73] rfl (decide_eq_false hc71) trivial ?_
              refine x_late (r_skip (dst := some 76) (t := 73) (ts := [6, 73]) rfl (by kernel_rfl) rfl rfl (decide_eq_false hc71)) rfl ⟨.inr (l_skip (dst := some 76) (t := 73) (ts := [6, 73]) rfl (by kernel_rfl) rfl rfl (decide_eq_false hc71)), trivial⟩ ?_
              refine xfs 77 73 [75, 76, 73] rfl (decide_eq_false hc71) ?_
              try dsimp only [w0, w1, w2, w3]
              refine xf 78 [73, 77] rfl (ok_pick_ff · (.tmp rfl) (decide_eq_false hc71) (.bool _)) ?_
              refine xf 79 [78] rfl (ok_move · (.tmp rfl)) ?_
              refine xfs 80 79 [12, 79] rfl rfl ?_
              refine xf 81 [79, 80] rfl (ok_pick_ff · (.tmp rfl) rfl (.bool _)) ?_
              try dsimp only [w0, w1, w2, w3]
              refine xf 82 [81] rfl (ok_move · (.tmp rfl)) ?_
              refine xfs 83 82 [14, 82] rfl rfl ?_
              refine xf 84 [82, 83] rfl (ok_pick_ff · (.tmp rfl) rfl (.bool _)) ?_
              refine xf 85 [84] rfl (ok_move · (.tmp rfl)) ?_
              try dsimp only [w0, w1, w2, w3]
              refine xfs 86 85 [11, 85] rfl rfl ?_
              refine xfs 87 85 [86, 85] rfl rfl ?_
              refine xfs 88 85 [13, 85] rfl rfl ?_
              refine xfs 89 85 [88, 85] rfl rfl ?_
              try dsimp only [w0, w1, w2, w3]
              refine xfs 90 85 [87, 89, 85] rfl rfl ?_
              refine xfs 91 85 [90, 85] rfl rfl ?_
              refine xf 92 [85, 91] rfl (ok_pick_ff · (.tmp rfl) rfl (.bool _)) ?_
              refine xf 93 [92] rfl (ok_move · (.tmp rfl)) ?_
              try dsimp only [w0, w1, w2, w3]
              refine xfs 94 93 [10, 93] rfl rfl ?_
              refine zes 95 93 [94, 93] rfl rfl ⟨.inl (by kernel_rfl), trivial⟩ ?_
              refine xfs 96 93 [95, 93] rfl rfl ?_
              refine xf 97 [93, 96] rfl (ok_pick_ff · (.tmp rfl) rfl (.bool _)) ?_
              try dsimp only [w0, w1, w2, w3]
              refine xf 98 [97] rfl (ok_move · (.tmp rfl)) ?_
              refine xfs 99 98 [10, 98] rfl rfl ?_
              refine zes 100 98 [99, 98] rfl rfl ⟨.inl (by kernel_rfl), trivial⟩ ?_
              refine xfs 101 98 [100, 98] rfl rfl ?_
              try dsimp only [w0, w1, w2, w3]
              refine xf 102 [98, 101] rfl (ok_pick_ff · (.tmp rfl) rfl (.bool _)) ?_
              refine xf 103 [102] rfl (ok_move · (.tmp rfl)) ?_
              refine xfs 104 103 [10, 103] rfl rfl ?_
              refine zes 105 103 [104, 103] rfl rfl ⟨.inl (by kernel_rfl), trivial⟩ ?_
              try dsimp only [w0, w1, w2, w3]
              refine xfs 106 103 [105, 103] rfl rfl ?_
              refine xf 107 [103, 106] rfl (ok_pick_ff · (.tmp rfl) rfl (.bool _)) ?_
              refine xf 108 [107] rfl (ok_move · (.tmp rfl)) ?_
              refine xfs 109 108 [10, 108] rfl rfl ?_
              try dsimp only [w0, w1, w2, w3]
              refine zes 110 108 [109, 108] rfl rfl ⟨.inl (by kernel_rfl), trivial⟩ ?_
              refine xfs 111 108 [110, 108] rfl rfl ?_
              refine xf 112 [108, 111] rfl (ok_pick_ff · (.tmp rfl) rfl (.bool _)) ?_
              refine xf 113 [112] rfl (ok_move · (.tmp rfl)) ?_
              try dsimp only [w0, w1, w2, w3]
              refine xfs 114 113 [10, 113] rfl rfl ?_
              refine zes 115 113 [114, 113] rfl rfl ⟨.inl (by kernel_rfl), trivial⟩ ?_
              refine xfs 116 113 [115, 113] rfl rfl ?_
              refine xf 117 [113, 116] rfl (ok_pick_ff · (.tmp rfl) rfl (.bool _)) ?_
              try dsimp only [w0, w1, w2, w3]
              refine xf 118 [117] rfl (ok_move · (.tmp rfl)) ?_
              refine xfs 119 118 [10, 118] rfl rfl ?_
              refine zes 120 118 [119, 118] rfl rfl ⟨.inl (by kernel_rfl), trivial⟩ ?_
              refine xfs 121 118 [120, 118] rfl rfl ?_
              try dsimp only [w0, w1, w2, w3]
              refine xf 122 [118, 121] rfl (ok_pick_ff · (.tmp rfl) rfl (.bool _)) ?_
              obtain ⟨p143, hp143, h⟩ := bindo h
              obtain ⟨p144, hp144, h⟩ := bindo h
              refine x_goE (e_op (dst := none) (ts := [2, 122]) rfl (by intro _ _ h; cases h) (by kernel_rfl) (fun _ ho => ok_store_s (v := (.bool false)) ho sz4 (.tmp rfl) hp143 (.tmp rfl) rfl hp144)) rfl ⟨.inl (by kernel_rfl), trivial⟩ ?_
              refine x_rest rfl ?_
              refine hr_region_end ?_
              try dsimp only [w0, w1, w2, w3]
              obtain ⟨p145, hp145, h⟩ := bindo h
              obtain ⟨p146, hp146, h⟩ := bindo h
              obtain ⟨p147, hp147, h⟩ := bindo h
              cases h
              exact q_ret rfl at_.at_ hp145 (resL1 rfl (.cell rfl hp146 sc4 (ldB_out hp147))) ⟨rfl, rfl⟩
          · rcases ifc h with ⟨hc148, h⟩ | ⟨hc148, h⟩
            · rw [pcode1 hn65 hc148]
              simp only [jumped_none, jumped_some]
              obtain ⟨p149, hp149, h⟩ := bindo h
              obtain ⟨p150, hp150, h⟩ := bindo h
              obtain ⟨p151, hp151, h⟩ := bindo h
              cases h
              exact q_ret rfl at_.at_ hp149 (resL1 rfl (.cell rfl hp150 sc4 (ldB_out hp151))) ⟨rfl, rfl⟩
            · cases h
def f (D : Dp) (H : Hd) (k : Nat) (x0 : Sl) (S : HS) : Option ((Bool) × HS) :=
  (letv (HS.new S (.cells 1 [[(.bool false)]] true)) fun p1 =>
  (Option.bind (rollcalllaw11_awake.f D H k p1) fun p2 =>
  (if (!p2.1) = true then
  (Option.bind (HS.sets p2.2 (HA.cell0 S.next) [(.bool false)]) fun p4 =>
  (Option.bind (HS.leave p4 []) fun p5 =>
  (Option.bind (HS.ldB p5 (HA.cell0 S.next)) fun p6 =>
  some (p6, p5)))) else
  (if (Sl.len x0 : Int) > 30 then
  (Option.bind (HS.sets p2.2 (HA.cell0 S.next) [(.bool true)]) fun p8 =>
  (Option.bind (HS.leave p8 []) fun p9 =>
  (Option.bind (HS.ldB p9 (HA.cell0 S.next)) fun p10 =>
  some (p10, p9)))) else
  (Option.bind (pair_New_int_int.f 50 p2.2) fun p11 =>
  (letv (HS.new p11.2 (.cells 1 [[(.ptr none)]] true)) fun p12 =>
  (Option.bind (HS.sets p12 (HA.cell0 p11.2.next) [(.ptr p11.1.1)]) fun p13 =>
  (if (!decide (p11.1.2 = 0)) = true then
  (Option.bind (HS.sets p13 (HA.cell0 S.next) [(.bool false)]) fun p15 =>
  (Option.bind (HS.leave p15 []) fun p16 =>
  (Option.bind (HS.ldB p16 (HA.cell0 S.next)) fun p17 =>
  some (p17, p16)))) else
  L0 D H k k x0 (some (HA.cell0 S.next)) (some (HA.cell0 p11.2.next)) 0 [] p13))))))))
theorem snd {D : Dp} {H : Hd} {k : Nat} {x0 : Sl} {S : HS} (hD : DSound Try.prog base W0 D) (hH : HSound Try.prog base W0 β0 H)  {p : (Bool) × HS} (h : f D H k x0 S = some p) : HCall Try.prog base W0 β0 5 [(Sl.hv x0)] S (fun v S1 => v = (.bool p.1) ∧ S1 = p.2) := by
  unfold f at h
  refine HCall.of_run at_.at_ body ?_
  show HRun Try.prog base W0 β0 5 none [.code c0] ⟨[(Sl.hv x0), τ, τ, τ, τ, τ, τ, τ, τ, τ, τ, τ, τ, τ, τ, τ, τ, τ, τ, τ, τ, τ, τ, τ, τ, τ, τ, τ, τ, τ, τ, τ, τ, τ, τ, τ, τ, τ, τ, τ, τ, τ, τ, τ, τ, τ, τ, τ, τ, τ, τ, τ, τ, τ, τ, τ, τ, τ, τ, τ, τ, τ, τ, τ, τ, τ, τ, τ, τ, τ, τ, τ, τ, τ, τ, τ, τ, τ, τ, τ, τ, τ, τ, τ, τ, τ, τ, τ, τ, τ, τ, τ, τ, τ, τ, τ, τ, τ, τ, τ, τ, τ, τ, τ, τ, τ, τ, τ, τ, τ, τ, τ, τ, τ, τ, τ, τ, τ, τ, τ, τ, τ, τ], []⟩ S _
  refine q_seq rfl ?_
  refine q_region rfl rfl ?_
  obtain ⟨p1, hp1, h⟩ := leto h
  refine qS 2 rfl (ok_alloc_e · zi4 zr4 (by decide) rfl hp1) ?_
  refine hr_region_end ?_
  try dsimp only [w0, w1, w2, w3]
  refine q_seq rfl ?_
  refine q_seq rfl ?_
  refine q_region rfl rfl ?_
  obtain ⟨p2, hp2, h⟩ := bindo h
  refine q_call (dst := some 15) rfl (.func _) Evs.nil (HInv.static rollcalllaw11_awake.at_ rollcalllaw11_awake.body (rollcalllaw11_awake.snd hD hH hp2)) ?_
  rintro _ _ ⟨rfl, rfl⟩
  refine qS 16 rfl (ok_not · (.tmp rfl)) ?_
  refine hr_region_end ?_
  try dsimp only [w0, w1, w2, w3]
  rcases ifc h with ⟨hc3, h⟩ | ⟨hc3, h⟩
  · refine q_cond_t rfl (.tmp rfl) hc3 ?_
    refine q_seq rfl ?_
    refine q_region rfl rfl ?_
    obtain ⟨p4, hp4, h⟩ := bindo h
    refine qN rfl (ok_store_s (v := (.bool false)) · sz4 (.tmp rfl) rfl (.bool _) rfl hp4) ?_
    refine hr_region_end ?_
    try dsimp only [w0, w1, w2, w3]
    obtain ⟨p5, hp5, h⟩ := bindo h
    obtain ⟨p6, hp6, h⟩ := bindo h
    cases h
    exact q_ret rfl at_.at_ hp5 (resL1 rfl (.cell rfl rfl sc4 (ldB_out hp6))) ⟨rfl, rfl⟩
  · refine q_cond_f rfl (.tmp rfl) (bfalse hc3) ?_
    refine q_skipc rfl ?_
    refine q_seq rfl ?_
    refine q_seq rfl ?_
    refine q_region rfl rfl ?_
    refine qS 17 rfl (ok_move · (.tmp rfl)) ?_
    refine qS 18 rfl (ok_len_sl (q := Sl.a x0) (n := Sl.len x0) (z := Sl.cap x0) · rfl tu43 (.tmp rfl)) ?_
    refine qS 19 rfl (ok_ibin · (.tmp rfl) (.int _ _) rfl) ?_
    refine hr_region_end ?_
    try dsimp only [w0, w1, w2, w3]
    rcases ifc h with ⟨hc7, h⟩ | ⟨hc7, h⟩
    · refine q_cond_t rfl (.tmp rfl) (decide_eq_true hc7) ?_
      refine q_seq rfl ?_
      refine q_region rfl rfl ?_
      obtain ⟨p8, hp8, h⟩ := bindo h
      refine qN rfl (ok_store_s (v := (.bool true)) · sz4 (.tmp rfl) rfl (.bool _) rfl hp8) ?_
      refine hr_region_end ?_
      try dsimp only [w0, w1, w2, w3]
      obtain ⟨p9, hp9, h⟩ := bindo h
      obtain ⟨p10, hp10, h⟩ := bindo h
      cases h
      exact q_ret rfl at_.at_ hp9 (resL1 rfl (.cell rfl rfl sc4 (ldB_out hp10))) ⟨rfl, rfl⟩
    · refine q_cond_f rfl (.tmp rfl) (decide_eq_false hc7) ?_
      refine q_skipc rfl ?_
      refine q_seq rfl ?_
      refine q_region rfl rfl ?_
      obtain ⟨p11, hp11, h⟩ := bindo h
      refine q_call (dst := some 21) rfl (.func _) (.cons (.int _ _) Evs.nil) (HInv.static pair_New_int_int.at_ pair_New_int_int.body (pair_New_int_int.snd  hp11)) ?_
      rintro _ _ ⟨rfl, rfl⟩
      refine qS 20 rfl (ok_move · (.tmp rfl)) ?_
      refine qS 22 rfl (ok_extract · (.tmp rfl) rfl) ?_
      refine qS 23 rfl (ok_extract · (.tmp rfl) rfl) ?_
      try dsimp only [w0, w1, w2, w3]
      obtain ⟨p12, hp12, h⟩ := leto h
      refine qS 3 rfl (ok_alloc_e · zi54 zr54 (by decide) rfl hp12) ?_
      obtain ⟨p13, hp13, h⟩ := bindo h
      refine qN rfl (ok_store_s (v := (.ptr p11.1.1)) · sz54 (.tmp rfl) rfl (.tmp rfl) rfl hp13) ?_
      refine qS 4 rfl (ok_assign · (.tmp rfl)) ?_
      refine hr_region_end ?_
      try dsimp only [w0, w1, w2, w3]
      refine q_seq rfl ?_
      refine q_seq rfl ?_
      refine q_region rfl rfl ?_
      refine qS 24 rfl (ok_move · (.tmp rfl)) ?_
      refine qS 25 rfl (ok_ibin · (.tmp rfl) (.int _ _) rfl) ?_
      refine hr_region_end ?_
      try dsimp only [w0, w1, w2, w3]
      rcases ifc h with ⟨hc14, h⟩ | ⟨hc14, h⟩
      · refine q_cond_t rfl (.tmp rfl) hc14 ?_
        refine q_seq rfl ?_
        refine q_region rfl rfl ?_
        obtain ⟨p15, hp15, h⟩ := bindo h
        refine qN rfl (ok_store_s (v := (.bool false)) · sz4 (.tmp rfl) rfl (.bool _) rfl hp15) ?_
        refine hr_region_end ?_
        try dsimp only [w0, w1, w2, w3]
        obtain ⟨p16, hp16, h⟩ := bindo h
        obtain ⟨p17, hp17, h⟩ := bindo h
        cases h
        exact q_ret rfl at_.at_ hp16 (resL1 rfl (.cell rfl rfl sc4 (ldB_out hp17))) ⟨rfl, rfl⟩
      · refine q_cond_f rfl (.tmp rfl) (bfalse hc14) ?_
        refine q_skipc rfl ?_
        refine q_seq rfl ?_
        refine q_seq rfl ?_
        refine q_region rfl rfl ?_
        refine qS 5 rfl (ok_assign · (.int _ _)) ?_
        refine hr_region_end ?_
        try dsimp only [w0, w1, w2, w3]
        refine q_block rfl ?_
        refine q_loop rfl ?_
        try dsimp only [w0, w1, w2, w3]
        exact L0_snd hD hH h
end
end rollcalllaw11_PairStays
section
variable {base : Nat} {W0 : World} {β0 : Bt}
def call_68 (D : Dp) (H : Hd) (k : Nat) (vs : List HV) (S : HS) : Option (HV × HS) :=
  Option.bind (args2 vs) fun a =>
  Option.bind (dF a.1) fun p0 =>
  Option.bind (dP a.2) fun p1 =>
  Option.bind (slices_Values_int_int_1.f D H k p0 p1 S) fun q =>
  some (.tup [], q.2)
theorem call_68_snd {D : Dp} {H : Hd} {k : Nat} (hD : DSound Try.prog base W0 D) (hH : HSound Try.prog base W0 β0 H) {vs : List HV} {S : HS} {p : HV × HS} (h : call_68 D H k vs S = some p) : HCall Try.prog base W0 β0 68 vs S (fun v1 S1 => v1 = p.1 ∧ S1 = p.2) := by
  unfold call_68 at h
  obtain ⟨a, ha, h⟩ := bindo h
  obtain ⟨p0, hp0, h⟩ := bindo h
  obtain ⟨p1, hp1, h⟩ := bindo h
  obtain ⟨q, hq, h⟩ := bindo h
  rw [args2_out ha, dF_out hp0, dP_out hp1]
  cases h
  exact slices_Values_int_int_1.snd hD hH hq
def call_54 (D : Dp) (H : Hd) (k : Nat) (vs : List HV) (S : HS) : Option (HV × HS) :=
  Option.bind (args1 vs) fun a =>
  Option.bind (dF a) fun p0 =>
  Option.bind (pair_Rel_int_string_By_1.f p0) fun q =>
  some (.tup [], S)
theorem call_54_snd {D : Dp} {H : Hd} {k : Nat} (hD : DSound Try.prog base W0 D) (hH : HSound Try.prog base W0 β0 H) {vs : List HV} {S : HS} {p : HV × HS} (h : call_54 D H k vs S = some p) : HCall Try.prog base W0 β0 54 vs S (fun v1 S1 => v1 = p.1 ∧ S1 = p.2) := by
  unfold call_54 at h
  obtain ⟨a, ha, h⟩ := bindo h
  obtain ⟨p0, hp0, h⟩ := bindo h
  obtain ⟨q, hq, h⟩ := bindo h
  rw [args1_out ha, dF_out hp0]
  cases h
  exact pair_Rel_int_string_By_1.snd hq
def call_42 (D : Dp) (H : Hd) (k : Nat) (vs : List HV) (S : HS) : Option (HV × HS) :=
  Option.bind (args1 vs) fun a =>
  Option.bind (dF a) fun p0 =>
  Option.bind (pair_Rel_int_int_By_1.f p0) fun q =>
  some (.tup [], S)
theorem call_42_snd {D : Dp} {H : Hd} {k : Nat} (hD : DSound Try.prog base W0 D) (hH : HSound Try.prog base W0 β0 H) {vs : List HV} {S : HS} {p : HV × HS} (h : call_42 D H k vs S = some p) : HCall Try.prog base W0 β0 42 vs S (fun v1 S1 => v1 = p.1 ∧ S1 = p.2) := by
  unfold call_42 at h
  obtain ⟨a, ha, h⟩ := bindo h
  obtain ⟨p0, hp0, h⟩ := bindo h
  obtain ⟨q, hq, h⟩ := bindo h
  rw [args1_out ha, dF_out hp0]
  cases h
  exact pair_Rel_int_int_By_1.snd hq
def call_72 (D : Dp) (H : Hd) (k : Nat) (vs : List HV) (S : HS) : Option (HV × HS) :=
  Option.bind (args2 vs) fun a =>
  Option.bind (dF a.1) fun p0 =>
  Option.bind (dP a.2) fun p1 =>
  Option.bind (slices_Values_string_string_1.f D H k p0 p1 S) fun q =>
  some (.tup [], q.2)
theorem call_72_snd {D : Dp} {H : Hd} {k : Nat} (hD : DSound Try.prog base W0 D) (hH : HSound Try.prog base W0 β0 H) {vs : List HV} {S : HS} {p : HV × HS} (h : call_72 D H k vs S = some p) : HCall Try.prog base W0 β0 72 vs S (fun v1 S1 => v1 = p.1 ∧ S1 = p.2) := by
  unfold call_72 at h
  obtain ⟨a, ha, h⟩ := bindo h
  obtain ⟨p0, hp0, h⟩ := bindo h
  obtain ⟨p1, hp1, h⟩ := bindo h
  obtain ⟨q, hq, h⟩ := bindo h
  rw [args2_out ha, dF_out hp0, dP_out hp1]
  cases h
  exact slices_Values_string_string_1.snd hD hH hq
def call_48 (D : Dp) (H : Hd) (k : Nat) (vs : List HV) (S : HS) : Option (HV × HS) :=
  Option.bind (args1 vs) fun a =>
  Option.bind (dF a) fun p0 =>
  Option.bind (pair_Rel_int_string_Of_1.f p0) fun q =>
  some (.tup [], S)
theorem call_48_snd {D : Dp} {H : Hd} {k : Nat} (hD : DSound Try.prog base W0 D) (hH : HSound Try.prog base W0 β0 H) {vs : List HV} {S : HS} {p : HV × HS} (h : call_48 D H k vs S = some p) : HCall Try.prog base W0 β0 48 vs S (fun v1 S1 => v1 = p.1 ∧ S1 = p.2) := by
  unfold call_48 at h
  obtain ⟨a, ha, h⟩ := bindo h
  obtain ⟨p0, hp0, h⟩ := bindo h
  obtain ⟨q, hq, h⟩ := bindo h
  rw [args1_out ha, dF_out hp0]
  cases h
  exact pair_Rel_int_string_Of_1.snd hq
def disp (k : Nat) : Nat → Dp
  | 0 => fun _ _ _ _ => none
  | n + 1 => fun H fv vs S => match fv with
    | .fn (.yield l) [] [] => Option.bind (H l) fun r => r vs S
    | .fn (.func f) xs ys => if f = 68 then call_68 (disp k n) H k (xs ++ vs ++ ys) S else if f = 54 then call_54 (disp k n) H k (xs ++ vs ++ ys) S else if f = 42 then call_42 (disp k n) H k (xs ++ vs ++ ys) S else if f = 72 then call_72 (disp k n) H k (xs ++ vs ++ ys) S else if f = 48 then call_48 (disp k n) H k (xs ++ vs ++ ys) S else none
    | _ => none
theorem disp_func {k n : Nat} {H : Hd} {f : Nat} {xs ys vs : List HV} {S : HS} : disp k (n + 1) H (.fn (.func f) xs ys) vs S = (if f = 68 then call_68 (disp k n) H k (xs ++ vs ++ ys) S else if f = 54 then call_54 (disp k n) H k (xs ++ vs ++ ys) S else if f = 42 then call_42 (disp k n) H k (xs ++ vs ++ ys) S else if f = 72 then call_72 (disp k n) H k (xs ++ vs ++ ys) S else if f = 48 then call_48 (disp k n) H k (xs ++ vs ++ ys) S else none) := rfl
theorem disp_yield {k n : Nat} {H : Hd} {l : Nat} {vs : List HV} {S : HS} : disp k (n + 1) H (.fn (.yield l) [] []) vs S = Option.bind (H l) fun r => r vs S := rfl
theorem disp_snd {k : Nat} : ∀ n, DSound Try.prog base W0 (disp k n) := by
  intro n
  induction n with
  | zero => intro _ _ _ _ _ _ _ _ h; cases h
  | succ n ih =>
    intro β0 H hH fv vs S v S' h
    unfold disp at h
    split at h
    · obtain ⟨r, hr, h⟩ := bindo h
      exact hH _ _ hr _ _ _ _ h
    · skip
      rcases ifc h with ⟨hf, h⟩ | ⟨hf, h⟩
      · subst hf; exact HInv.func slices_Values_int_int_1.at_ slices_Values_int_int_1.body (call_68_snd (k := k) ih hH h)
      rcases ifc h with ⟨hf, h⟩ | ⟨hf, h⟩
      · subst hf; exact HInv.func pair_Rel_int_string_By_1.at_ pair_Rel_int_string_By_1.body (call_54_snd (k := k) ih hH h)
      rcases ifc h with ⟨hf, h⟩ | ⟨hf, h⟩
      · subst hf; exact HInv.func pair_Rel_int_int_By_1.at_ pair_Rel_int_int_By_1.body (call_42_snd (k := k) ih hH h)
      rcases ifc h with ⟨hf, h⟩ | ⟨hf, h⟩
      · subst hf; exact HInv.func slices_Values_string_string_1.at_ slices_Values_string_string_1.body (call_72_snd (k := k) ih hH h)
      rcases ifc h with ⟨hf, h⟩ | ⟨hf, h⟩
      · subst hf; exact HInv.func pair_Rel_int_string_Of_1.at_ pair_Rel_int_string_Of_1.body (call_48_snd (k := k) ih hH h)
      cases h
    · cases h
end
end Go.Proofs.Ytdgmehfhgppheaa.X
