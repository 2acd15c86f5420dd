/- Functions of the program, each as a Lean function over the layer HL: a call answers what the Lean function answers, where it answers. -/
import Derived.Test.YtpjabhpfaahgoaaProg
import Derived.Test.YtpjabhpfaahgoaaSqP
namespace Go.Proofs.Ytpjabhpfaahgoaa.X
open Go.Proofs.Ytpjabhpfaahgoaa.HL
set_option linter.unusedVariables false
set_option linter.unusedSimpArgs false
set_option maxRecDepth 20000
set_option maxHeartbeats 4000000
namespace rollcallref03_Text
theorem at_ : FnAt Try.prog 23 Try.f23 := ⟨Try.func23, by kernel_rfl⟩
noncomputable def d0 := (Try.f23.body).getD .skip
noncomputable def r1 := kR (kA d0)
noncomputable def r3 := kR (kA (kB d0))
noncomputable def c4 : Code := .ret
noncomputable def c0 : Code := .seq (.region 0 r1 false) (.seq (.region 1 r3 false) c4)
theorem body : Try.f23.body = some c0 := by kernel_rfl
section
variable {base : Nat} {W0 : World} {β0 : Bt}
def J1 (k : Nat) (y15 : Bool) : Option (Bool) :=
  some y15
theorem J1_snd {k : Nat}  {y15 : Bool} {S : HS} {p : Bool} {g0 g1 g2 g3 g4 g5 g6 g7 g8 g9 g10 g11 g12 g13 g14 : HV} (h : J1 k y15 = some p) : HRun Try.prog base W0 β0 23 none [.inRegion r3 [13], .code c4] ⟨[g0, g1, g2, g3, g4, g5, g6, g7, g8, g9, g10, g11, g12, g13, g14, (.bool y15)], []⟩ S (fun v S1 => v = (.bool p) ∧ S1 = S) := by
  unfold J1 at h
  refine qS 2 rfl (ok_assign · (.tmp rfl)) ?_
  refine hr_region_end ?_
  try dsimp only [w0, w1, w2, w3]
  cases h
  exact q_ret rfl at_.at_ rfl (res1 rfl rfl) ⟨rfl, rfl⟩
def J0 (k : Nat) (y0 : (List UInt8)) (y10 : Bool) : Option (Bool) :=
  (if y10 = true then
  (Option.bind (rollcallref03_in.f k y0 13) fun p5 =>
  J1 k (!p5)) else
  J1 k false)
theorem J0_snd {k : Nat}  {y0 : (List UInt8)} {y10 : Bool} {S : HS} {p : Bool} {g1 g2 g3 g4 g5 g6 g7 g8 g9 g11 g12 g13 g14 g15 : HV} (h : J0 k y0 y10 = some p) : HRun Try.prog base W0 β0 23 none [.inRegion r3 [8, 9, 10, 11, 12, 13], .code c4] ⟨[(.str y0), g1, g2, g3, g4, g5, g6, g7, g8, g9, (.bool y10), g11, g12, g13, g14, g15], []⟩ S (fun v S1 => v = (.bool p) ∧ S1 = S) := by
  unfold J0 at h
  refine qS 11 rfl (ok_move · (.tmp rfl)) ?_
  rcases ifc h with ⟨hc4, h⟩ | ⟨hc4, h⟩
  · refine qG 11 12 rfl hc4 (ok_move · (.tmp rfl)) ?_
    obtain ⟨p5, hp5, h⟩ := bindo h
    refine q_call_g (t := 11) (dst := some 13) rfl rfl rfl hc4 (.func _) (.cons (.tmp rfl) (.cons (.int _ _) Evs.nil)) (HInv.static rollcallref03_in.at_ rollcallref03_in.body (rollcallref03_in.snd  hp5)) ?_
    rintro _ _ ⟨rfl, rfl⟩
    refine qG 11 14 rfl hc4 (ok_not · (.tmp rfl)) ?_
    try dsimp only [w0, w1, w2, w3]
    refine qS 15 rfl (ok_pick_tt · (.tmp rfl) hc4 (.tmp rfl)) ?_
    try dsimp only [w0, w1, w2, w3]
    exact J1_snd  h
  · refine q_skip (dst := some 12) (t := 11) rfl rfl rfl (bfalse hc4) ?_
    refine q_skip (dst := some 13) (t := 11) rfl rfl rfl (bfalse hc4) ?_
    refine q_skip (dst := some 14) (t := 11) rfl rfl rfl (bfalse hc4) ?_
    try dsimp only [w0, w1, w2, w3]
    refine qS 15 rfl (ok_pick_ff · (.tmp rfl) (bfalse hc4) (.bool _)) ?_
    try dsimp only [w0, w1, w2, w3]
    exact J1_snd  h
def f (k : Nat) (x0 : (List UInt8)) : Option (Bool) :=
  (Option.bind (rollcallref03_in.f k x0 0) fun p1 =>
  (if (!p1) = true then
  (Option.bind (rollcallref03_in.f k x0 10) fun p3 =>
  J0 k x0 (!p3)) else
  J0 k x0 false))
theorem snd {k : Nat} {x0 : (List UInt8)} {S : HS}  {p : Bool} (h : f k x0 = some p) : HCall Try.prog base W0 β0 23 [(.str x0)] S (fun v S1 => v = (.bool p) ∧ S1 = S) := by
  unfold f at h
  refine HCall.of_run at_.at_ body ?_
  show HRun Try.prog base W0 β0 23 none [.code c0] ⟨[(.str x0), τ, τ, τ, τ, τ, τ, τ, τ, τ, τ, τ, τ, τ, τ, τ], []⟩ S _
  refine q_seq rfl ?_
  refine q_region rfl rfl ?_
  refine qS 2 rfl (ok_assign · (.bool _)) ?_
  refine hr_region_end ?_
  try dsimp only [w0, w1, w2, w3]
  refine q_seq rfl ?_
  refine q_region rfl rfl ?_
  refine qS 3 rfl (ok_move · (.tmp rfl)) ?_
  obtain ⟨p1, hp1, h⟩ := bindo h
  refine q_call (dst := some 4) rfl (.func _) (.cons (.tmp rfl) (.cons (.int _ _) Evs.nil)) (HInv.static rollcallref03_in.at_ rollcallref03_in.body (rollcallref03_in.snd  hp1)) ?_
  rintro _ _ ⟨rfl, rfl⟩
  refine qS 5 rfl (ok_not · (.tmp rfl)) ?_
  refine qS 6 rfl (ok_move · (.tmp rfl)) ?_
  try dsimp only [w0, w1, w2, w3]
  rcases ifc h with ⟨hc2, h⟩ | ⟨hc2, h⟩
  · refine qG 6 7 rfl hc2 (ok_move · (.tmp rfl)) ?_
    obtain ⟨p3, hp3, h⟩ := bindo h
    refine q_call_g (t := 6) (dst := some 8) rfl rfl rfl hc2 (.func _) (.cons (.tmp rfl) (.cons (.int _ _) Evs.nil)) (HInv.static rollcallref03_in.at_ rollcallref03_in.body (rollcallref03_in.snd  hp3)) ?_
    rintro _ _ ⟨rfl, rfl⟩
    refine qG 6 9 rfl hc2 (ok_not · (.tmp rfl)) ?_
    refine qS 10 rfl (ok_pick_tt · (.tmp rfl) hc2 (.tmp rfl)) ?_
    try dsimp only [w0, w1, w2, w3]
    try dsimp only [w0, w1, w2, w3]
    exact J0_snd  h
  · refine q_skip (dst := some 7) (t := 6) rfl rfl rfl (bfalse hc2) ?_
    refine q_skip (dst := some 8) (t := 6) rfl rfl rfl (bfalse hc2) ?_
    refine q_skip (dst := some 9) (t := 6) rfl rfl rfl (bfalse hc2) ?_
    refine qS 10 rfl (ok_pick_ff · (.tmp rfl) (bfalse hc2) (.bool _)) ?_
    try dsimp only [w0, w1, w2, w3]
    try dsimp only [w0, w1, w2, w3]
    exact J0_snd  h
end
end rollcallref03_Text
namespace rollcallref08_Queue_Push
theorem at_ : FnAt Try.prog 14 Try.f14 := ⟨Try.func14, by kernel_rfl⟩
noncomputable def d0 := (Try.f14.body).getD .skip
noncomputable def r1 := kR (kA d0)
noncomputable def r4 := kR (kA (kA (kB d0)))
noncomputable def r7 := kR (kA (kA (kB (kA (kB d0)))))
noncomputable def r12 := kR (kA (kA (kB (kB d0))))
noncomputable def d14 := kA (kB (kA (kB (kB d0))))
noncomputable def r15 := kR (kA d14)
noncomputable def r17 := kR (kA (kB d14))
noncomputable def r21 := kR (kA (kB (kB (kB d0))))
noncomputable def r23 := kR (kA (kB (kB (kB (kB d0)))))
noncomputable def r25 := kR (kA (kB (kB (kB (kB (kB d0))))))
noncomputable def c10 : Code := .seq (.seq (.region 3 r12 true) (.cond (.tmp 30) (.seq (.region 4 r15 false) (.seq (.region 5 r17 false) .ret)) .skip)) (.seq (.region 6 r21 false) (.seq (.region 7 r23 false) (.seq (.region 8 r25 false) .ret)))
noncomputable def c5 : Code := .cond (.tmp 18) (.seq (.region 2 r7 false) .ret) .skip
noncomputable def c0 : Code := .seq (.region 0 r1 false) (.seq (.seq (.region 1 r4 false) c5) c10)
theorem body : Try.f14.body = some c0 := by kernel_rfl
section
variable {base : Nat} {W0 : World} {β0 : Bt}
def J1 (k : Nat) (y0 : (Option HA)) (y1 : (List UInt8)) (y18 : Bool) (S : HS) : Option ((Bool) × HS) :=
  (if y18 = true then
  some (false, S) else
  (Option.bind (rollcallref08_Queue_Waits.f y0 S) fun p6 =>
  (Option.bind (y0) fun p7 =>
  (Option.bind (HS.ldI p6.2 .i64 (HA.fld p7 0)) fun p8 =>
  (Option.bind (HS.ldI S .i64 (HA.fld p7 0)) fun p9 =>
  (if p9 = p8 then
  (if (w64 ((w64 ((List.length p6.1 : Int) + (List.length y1 : Int))) + 2)) > p8 then
  (Option.bind (y0) fun p12 =>
  (Option.bind (HS.sets p6.2 (HA.fld p12 4) [(.bool true)]) fun p13 =>
  some (false, p13))) else
  (letv (HS.lit p6.2 [] 1) fun p14 =>
  (Option.bind (y0) fun p15 =>
  (Option.bind (HS.ldSl (p14.2) (HA.fld p15 1)) fun p16 =>
  (Option.bind (HS.rows (p14.2) p16 1) fun p17 =>
  (Option.bind (HS.app (p14.2) (p14.1) p17 1) fun p18 =>
  (letv (HS.lit (p18.2) [[(.str y1)]] 1) fun p19 =>
  (Option.bind (HS.rows (p19.2) (p19.1) 1) fun p20 =>
  (Option.bind (HS.app (p19.2) (p18.1) p20 1) fun p21 =>
  (Option.bind (y0) fun p22 =>
  (Option.bind (HS.sets (p21.2) (HA.fld p22 1) [(Sl.hv (p21.1))]) fun p23 =>
  (Option.bind (y0) fun p24 =>
  (Option.bind (HS.ldS p23 (HA.fld p24 2)) fun p25 =>
  (if List.length p25 + List.length y1 ≤ 9223372036854775807 then
  (if List.length (p25 ++ y1) + List.length ([13, 10] : List UInt8) ≤ 9223372036854775807 then
  (Option.bind (y0) fun p28 =>
  (Option.bind (HS.sets p23 (HA.fld p28 2) [(.str ((p25 ++ y1) ++ ([13, 10] : List UInt8)))]) fun p29 =>
  some (true, p29))) else none) else none)))))))))))))) else none))))))
theorem J1_snd {k : Nat}  {y0 : (Option HA)} {y1 : (List UInt8)} {y18 : Bool} {S : HS} {p : (Bool) × HS} {g2 g3 g4 g5 g6 g7 g8 g9 g10 g11 g12 g13 g14 g15 g16 g17 g19 g20 g21 g22 g23 g24 g25 g26 g27 g28 g29 g30 g31 g32 g33 g34 g35 g36 g37 g38 g39 g40 g41 g42 g43 g44 g45 g46 g47 g48 g49 g50 g51 g52 g53 g54 g55 : HV} (h : J1 k y0 y1 y18 S = some p) : HRun Try.prog base W0 β0 14 none [.code c5, .code c10] ⟨[(.ptr y0), (.str y1), g2, g3, g4, g5, g6, g7, g8, g9, g10, g11, g12, g13, g14, g15, g16, g17, (.bool y18), g19, g20, g21, g22, g23, g24, g25, g26, g27, g28, g29, g30, g31, g32, g33, g34, g35, g36, g37, g38, g39, g40, g41, g42, g43, g44, g45, g46, g47, g48, g49, g50, g51, g52, g53, g54, g55], []⟩ S (fun v S1 => v = (.bool p.1) ∧ S1 = p.2) := by
  unfold J1 at h
  rcases ifc h with ⟨hc5, h⟩ | ⟨hc5, h⟩
  · refine q_cond_t rfl (.tmp rfl) hc5 ?_
    refine q_seq rfl ?_
    refine q_region rfl rfl ?_
    refine qS 4 rfl (ok_assign · (.bool _)) ?_
    refine hr_region_end ?_
    try dsimp only [w0, w1, w2, w3]
    cases h
    exact q_ret rfl at_.at_ rfl (res1 rfl rfl) ⟨rfl, rfl⟩
  · refine q_cond_f rfl (.tmp rfl) (bfalse hc5) ?_
    refine q_skipc rfl ?_
    refine q_seq rfl ?_
    refine q_seq rfl ?_
    refine x_start (cls := [0, 2, 0, 0, 0, 0, 0, 0, 0, 0, 3, 0]) (rk := [0, 1, 2, 3, 4, 5, 6, 7, 8, 9, 10, 11]) rfl (by kernel_rfl) ?_
    refine xf 19 [0] rfl (ok_move · (.tmp rfl)) ?_
    obtain ⟨p6, hp6, h⟩ := bindo h
    refine x_goE (e_call (dst := some 20) (ts := [19]) rfl (by kernel_rfl) (.func _) (.cons (.tmp rfl) Evs.nil) (HInv.static rollcallref08_Queue_Waits.at_ rollcallref08_Queue_Waits.body (rollcallref08_Queue_Waits.snd  hp6))) rfl trivial ?_
    refine xf 21 [20] rfl (ok_len_str · rfl tu9 (.tmp rfl)) ?_
    refine xf 22 [1] rfl (ok_move · (.tmp rfl)) ?_
    try dsimp only [w0, w1, w2, w3]
    refine xf 23 [22] rfl (ok_len_str · rfl tu9 (.tmp rfl)) ?_
    refine xf 24 [21, 23] rfl (ok_ibin · (.tmp rfl) (.tmp rfl) rfl) ?_
    refine xf 25 [24] rfl (ok_ibin · (.tmp rfl) (.int _ _) rfl) ?_
    refine xf 26 [0] rfl (ok_move · (.tmp rfl)) ?_
    try dsimp only [w0, w1, w2, w3]
    obtain ⟨p7, hp7, h⟩ := bindo h
    refine xf 27 [26] rfl (ok_nilCheck_p · (.tmp rfl) hp7) ?_
    refine xf 28 [27] rfl (ok_fieldAddr_s · fi40_0 (by decide) (.tmp rfl) rfl) ?_
    obtain ⟨p8, hp8, h⟩ := bindo h
    obtain ⟨p9, hp9, h⟩ := bindo h
    obtain ⟨hg10, h⟩ := gd h
    refine x_late (r_op (dst := some 29) (ts := [28]) rfl (by intro _ _ h; cases h) (by kernel_rfl) (fun _ ho => ok_load_s ho sc3 (.tmp rfl) rfl (ldI_out hp8))) rfl ⟨.inr (l_op (dst := some 29) (ts := [28]) rfl (by intro _ _ h; cases h) (by kernel_rfl) (fun _ ho => ok_load_s ho sc3 (.tmp rfl) rfl (ldI_out (hp9.trans (congrArg some hg10))))), trivial⟩ ?_
    refine xf 30 [25, 29] rfl (ok_ibin · (.tmp rfl) (.tmp rfl) rfl) ?_
    refine x_rest rfl ?_
    refine hr_region_end ?_
    try dsimp only [w0, w1, w2, w3]
    rcases ifc h with ⟨hc11, h⟩ | ⟨hc11, h⟩
    · refine q_cond_t rfl (.tmp rfl) (decide_eq_true hc11) ?_
      refine q_seq rfl ?_
      refine q_region rfl rfl ?_
      refine qS 31 rfl (ok_move · (.tmp rfl)) ?_
      obtain ⟨p12, hp12, h⟩ := bindo h
      refine qS 32 rfl (ok_nilCheck_p · (.tmp rfl) hp12) ?_
      refine qS 33 rfl (ok_fieldAddr_s · fi40_4 (by decide) (.tmp rfl) rfl) ?_
      obtain ⟨p13, hp13, h⟩ := bindo h
      refine qN rfl (ok_store_s (v := (.bool true)) · sz4 (.tmp rfl) rfl (.bool _) rfl hp13) ?_
      refine hr_region_end ?_
      try dsimp only [w0, w1, w2, w3]
      refine q_seq rfl ?_
      refine q_region rfl rfl ?_
      refine qS 4 rfl (ok_assign · (.bool _)) ?_
      refine hr_region_end ?_
      try dsimp only [w0, w1, w2, w3]
      cases h
      exact q_ret rfl at_.at_ rfl (res1 rfl rfl) ⟨rfl, rfl⟩
    · refine q_cond_f rfl (.tmp rfl) (decide_eq_false hc11) ?_
      refine q_skipc rfl ?_
      refine q_seq rfl ?_
      refine q_region rfl rfl ?_
      refine qS 34 rfl (ok_move · (.tmp rfl)) ?_
      obtain ⟨p14, hp14, h⟩ := leto h
      refine qS 35 rfl (ok_buildSlice_s (xs := []) el36 · rfl rfl (by decide) Evs.nil rfl rfl hp14) ?_
      refine qS 36 rfl (ok_move · (.tmp rfl)) ?_
      obtain ⟨p15, hp15, h⟩ := bindo h
      refine qS 37 rfl (ok_nilCheck_p · (.tmp rfl) hp15) ?_
      try dsimp only [w0, w1, w2, w3]
      refine qS 38 rfl (ok_fieldAddr_s · fi40_1 (by decide) (.tmp rfl) rfl) ?_
      obtain ⟨p16, hp16, h⟩ := bindo h
      refine qS 39 rfl (ok_load_s · sc36 (.tmp rfl) rfl (ldSl_out hp16)) ?_
      obtain ⟨p17, hp17, h⟩ := bindo h
      obtain ⟨p18, hp18, h⟩ := bindo h
      refine qS 40 rfl (ok_append (s := (p14.1)) (s1 := p16) el36 · rfl rfl ⟨_, tu36⟩ (.tmp rfl) (.tmp rfl) hp17 hp18) ?_
      refine qS 41 rfl (ok_move · (.tmp rfl)) ?_
      try dsimp only [w0, w1, w2, w3]
      obtain ⟨p19, hp19, h⟩ := leto h
      refine qS 42 rfl (ok_buildSlice_s (xs := [(.tmp 41)]) el36 · rfl rfl (by decide) (.cons (.tmp rfl) Evs.nil) rfl rfl hp19) ?_
      obtain ⟨p20, hp20, h⟩ := bindo h
      obtain ⟨p21, hp21, h⟩ := bindo h
      refine qS 43 rfl (ok_append (s := (p18.1)) (s1 := (p19.1)) el36 · rfl rfl ⟨_, tu36⟩ (.tmp rfl) (.tmp rfl) hp20 hp21) ?_
      obtain ⟨p22, hp22, h⟩ := bindo h
      refine qS 44 rfl (ok_nilCheck_p · (.tmp rfl) hp22) ?_
      refine qS 45 rfl (ok_fieldAddr_s · fi40_1 (by decide) (.tmp rfl) rfl) ?_
      try dsimp only [w0, w1, w2, w3]
      obtain ⟨p23, hp23, h⟩ := bindo h
      refine qN rfl (ok_store_s (v := (Sl.hv (p21.1))) · sz36 (.tmp rfl) rfl (.tmp rfl) rfl hp23) ?_
      refine hr_region_end ?_
      try dsimp only [w0, w1, w2, w3]
      refine q_seq rfl ?_
      refine q_region rfl rfl ?_
      refine qS 46 rfl (ok_move · (.tmp rfl)) ?_
      refine qS 47 rfl (ok_move · (.tmp rfl)) ?_
      obtain ⟨p24, hp24, h⟩ := bindo h
      refine qS 48 rfl (ok_nilCheck_p · (.tmp rfl) hp24) ?_
      refine qS 49 rfl (ok_fieldAddr_s · fi40_2 (by decide) (.tmp rfl) rfl) ?_
      try dsimp only [w0, w1, w2, w3]
      obtain ⟨p25, hp25, h⟩ := bindo h
      refine qS 50 rfl (ok_load_s · sc9 (.tmp rfl) rfl (ldS_out hp25)) ?_
      refine qS 51 rfl (ok_move · (.tmp rfl)) ?_
      obtain ⟨hg26, h⟩ := gd h
      refine qS 52 rfl (ok_sadd · (.tmp rfl) (.tmp rfl) hg26) ?_
      obtain ⟨hg27, h⟩ := gd h
      refine qS 53 rfl (ok_sadd · (.tmp rfl) (.str _) hg27) ?_
      try dsimp only [w0, w1, w2, w3]
      obtain ⟨p28, hp28, h⟩ := bindo h
      refine qS 54 rfl (ok_nilCheck_p · (.tmp rfl) hp28) ?_
      refine qS 55 rfl (ok_fieldAddr_s · fi40_2 (by decide) (.tmp rfl) rfl) ?_
      obtain ⟨p29, hp29, h⟩ := bindo h
      refine qN rfl (ok_store_s (v := (.str ((p25 ++ y1) ++ ([13, 10] : List UInt8)))) · sz9 (.tmp rfl) rfl (.tmp rfl) rfl hp29) ?_
      refine hr_region_end ?_
      try dsimp only [w0, w1, w2, w3]
      refine q_seq rfl ?_
      refine q_region rfl rfl ?_
      refine qS 4 rfl (ok_assign · (.bool _)) ?_
      refine hr_region_end ?_
      try dsimp only [w0, w1, w2, w3]
      cases h
      exact q_ret rfl at_.at_ rfl (res1 rfl rfl) ⟨rfl, rfl⟩
def J0 (k : Nat) (y0 : (Option HA)) (y1 : (List UInt8)) (y13 : Bool) (S : HS) : Option ((Bool) × HS) :=
  (if y13 = true then
  J1 k y0 y1 true S else
  (Option.bind (rollcallref03_Text.f k y1) fun p30 =>
  J1 k y0 y1 (!p30) S))
theorem J0_snd {k : Nat}  {y0 : (Option HA)} {y1 : (List UInt8)} {y13 : Bool} {S : HS} {p : (Bool) × HS} {g2 g3 g4 g5 g6 g7 g8 g9 g10 g11 g12 g14 g15 g16 g17 g18 g19 g20 g21 g22 g23 g24 g25 g26 g27 g28 g29 g30 g31 g32 g33 g34 g35 g36 g37 g38 g39 g40 g41 g42 g43 g44 g45 g46 g47 g48 g49 g50 g51 g52 g53 g54 g55 : HV} (h : J0 k y0 y1 y13 S = some p) : HRun Try.prog base W0 β0 14 none [.inRegion r4 [9, 10, 11, 12, 13], .code c5, .code c10] ⟨[(.ptr y0), (.str y1), g2, g3, g4, g5, g6, g7, g8, g9, g10, g11, g12, (.bool y13), g14, g15, g16, g17, g18, g19, g20, g21, g22, g23, g24, g25, g26, g27, g28, g29, g30, g31, g32, g33, g34, g35, g36, g37, g38, g39, g40, g41, g42, g43, g44, g45, g46, g47, g48, g49, g50, g51, g52, g53, g54, g55], []⟩ S (fun v S1 => v = (.bool p.1) ∧ S1 = p.2) := by
  unfold J0 at h
  refine qS 14 rfl (ok_move · (.tmp rfl)) ?_
  rcases ifc h with ⟨hc4, h⟩ | ⟨hc4, h⟩
  · refine q_skip (dst := some 15) (t := 14) rfl rfl rfl hc4 ?_
    refine q_skip (dst := some 16) (t := 14) rfl rfl rfl hc4 ?_
    try dsimp only [w0, w1, w2, w3]
    refine q_skip (dst := some 17) (t := 14) rfl rfl rfl hc4 ?_
    refine qS 18 rfl (ok_pick_tt · (.tmp rfl) hc4 (.bool _)) ?_
    refine hr_region_end ?_
    try dsimp only [w0, w1, w2, w3]
    try dsimp only [w0, w1, w2, w3]
    exact J1_snd  h
  · refine qG 14 15 rfl (bfalse hc4) (ok_move · (.tmp rfl)) ?_
    obtain ⟨p30, hp30, h⟩ := bindo h
    refine q_call_g (t := 14) (dst := some 16) rfl rfl rfl (bfalse hc4) (.func _) (.cons (.tmp rfl) Evs.nil) (HInv.static rollcallref03_Text.at_ rollcallref03_Text.body (rollcallref03_Text.snd  hp30)) ?_
    rintro _ _ ⟨rfl, rfl⟩
    try dsimp only [w0, w1, w2, w3]
    refine qG 14 17 rfl (bfalse hc4) (ok_not · (.tmp rfl)) ?_
    refine qS 18 rfl (ok_pick_ff · (.tmp rfl) (bfalse hc4) (.tmp rfl)) ?_
    refine hr_region_end ?_
    try dsimp only [w0, w1, w2, w3]
    try dsimp only [w0, w1, w2, w3]
    exact J1_snd  h
def f (k : Nat) (x0 : (Option HA)) (x1 : (List UInt8)) (S : HS) : Option ((Bool) × HS) :=
  (Option.bind (x0) fun p1 =>
  (Option.bind (HS.ldB S (HA.fld p1 4)) fun p2 =>
  (if p2 = true then
  J0 k x0 x1 true S else
  J0 k x0 x1 (decide ((List.length x1 : Int) > 510)) S)))
theorem snd {k : Nat} {x0 : (Option HA)} {x1 : (List UInt8)} {S : HS}  {p : (Bool) × HS} (h : f k x0 x1 S = some p) : HCall Try.prog base W0 β0 14 [(.ptr x0), (.str x1)] S (fun v S1 => v = (.bool p.1) ∧ S1 = p.2) := by
  unfold f at h
  refine HCall.of_run at_.at_ body ?_
  show HRun Try.prog base W0 β0 14 none [.code c0] ⟨[(.ptr x0), (.str x1), τ, τ, τ, τ, τ, τ, τ, τ, τ, τ, τ, τ, τ, τ, τ, τ, τ, τ, τ, τ, τ, τ, τ, τ, τ, τ, τ, τ, τ, τ, τ, τ, τ, τ, τ, τ, τ, τ, τ, τ, τ, τ, τ, τ, τ, τ, τ, τ, τ, τ, τ, τ, τ, τ], []⟩ S _
  refine q_seq rfl ?_
  refine q_region rfl rfl ?_
  refine qS 4 rfl (ok_assign · (.bool _)) ?_
  refine hr_region_end ?_
  try dsimp only [w0, w1, w2, w3]
  refine q_seq rfl ?_
  refine q_seq rfl ?_
  refine q_region rfl rfl ?_
  refine qS 5 rfl (ok_move · (.tmp rfl)) ?_
  obtain ⟨p1, hp1, h⟩ := bindo h
  refine qS 6 rfl (ok_nilCheck_p · (.tmp rfl) hp1) ?_
  refine qS 7 rfl (ok_fieldAddr_s · fi40_4 (by decide) (.tmp rfl) rfl) ?_
  obtain ⟨p2, hp2, h⟩ := bindo h
  refine qS 8 rfl (ok_load_s · sc4 (.tmp rfl) rfl (ldB_out hp2)) ?_
  try dsimp only [w0, w1, w2, w3]
  refine qS 9 rfl (ok_move · (.tmp rfl)) ?_
  rcases ifc h with ⟨hc3, h⟩ | ⟨hc3, h⟩
  · refine q_skip (dst := some 10) (t := 9) rfl rfl rfl hc3 ?_
    refine q_skip (dst := some 11) (t := 9) rfl rfl rfl hc3 ?_
    refine q_skip (dst := some 12) (t := 9) rfl rfl rfl hc3 ?_
    try dsimp only [w0, w1, w2, w3]
    refine qS 13 rfl (ok_pick_tt · (.tmp rfl) hc3 (.bool _)) ?_
    try dsimp only [w0, w1, w2, w3]
    exact J0_snd  h
  · refine qG 9 10 rfl (bfalse hc3) (ok_move · (.tmp rfl)) ?_
    refine qG 9 11 rfl (bfalse hc3) (ok_len_str · rfl tu9 (.tmp rfl)) ?_
    refine qG 9 12 rfl (bfalse hc3) (ok_ibin · (.tmp rfl) (.int _ _) rfl) ?_
    try dsimp only [w0, w1, w2, w3]
    refine qS 13 rfl (ok_pick_ff · (.tmp rfl) (bfalse hc3) (.tmp rfl)) ?_
    try dsimp only [w0, w1, w2, w3]
    exact J0_snd  h
end
end rollcallref08_Queue_Push
namespace rollcalllaw08_lines
theorem at_ : FnAt Try.prog 15 Try.f15 := ⟨Try.func15, by kernel_rfl⟩
noncomputable def d0 := (Try.f15.body).getD .skip
noncomputable def r1 := kR (kA d0)
noncomputable def r3 := kR (kA (kB d0))
noncomputable def r5 := kR (kA (kB (kB d0)))
noncomputable def d6 := kB (kB (kB d0))
noncomputable def r8 := kR (kA (kA d6))
noncomputable def r11 := kR (kA (kA (kB (kA d6))))
noncomputable def r16 := kR (kA (kA (kB d6)))
noncomputable def d17 := kB (kA (kB d6))
noncomputable def r19 := kR (kA (kA d17))
noncomputable def r23 := kR (kA (kA (kA (kB (kA d17)))))
noncomputable def r26 := kR (kA (kA (kB (kA (kA (kB (kA d17)))))))
noncomputable def r29 := kR (kB (kA (kB (kA d17))))
noncomputable def r31 := kR (kA (kB (kB d6)))
noncomputable def c20 : Code := .block 1 (.seq (.seq (.region 7 r23 false) (.cond (.tmp 18) (.seq (.region 8 r26 false) .ret) .skip)) (.region 9 r29 false))
noncomputable def c19 : Code := .region 6 r19 false
noncomputable def c0 : Code := .seq (.region 0 r1 false) (.seq (.region 1 r3 false) (.seq (.region 2 r5 false) (.seq (.seq (.region 3 r8 false) (.cond (.tmp 12) (.seq (.region 4 r11 false) .ret) .skip)) (.seq (.seq (.region 5 r16 false) (.block 0 (.rangeFunc (.tmp 13) #[14] c19 c20))) (.seq (.region 10 r31 false) .ret)))))
theorem body : Try.f15.body = some c0 := by kernel_rfl
section
variable {base : Nat} {W0 : World} {β0 : Bt}
def J0 (D : Dp) (H : Hd) (l : Nat) (y3 : (Option HA)) (y4 : (Option HA)) (y5 : (Option HA)) (y6 : (Option HA)) (y14 : (List UInt8)) (S : HS) : Option (HV × HS) :=
  (Option.bind (HS.begin_ S l) fun p13 =>
  (Option.bind (y6) fun p14 =>
  (Option.bind (HS.ldSl p13 p14) fun p15 =>
  (Option.bind (y3) fun p16 =>
  (Option.bind (HS.ldI p13 .i64 p16) fun p17 =>
  (if (Sl.len p15 : Int) > p17 then
  (Option.bind (y4) fun p19 =>
  (Option.bind (HS.sets p13 p19 [(Sl.hv Sl.nil)]) fun p20 =>
  (Option.bind (y5) fun p21 =>
  (Option.bind (HS.sets p20 p21 [(.bool false)]) fun p22 =>
  (HS.endr p22 l (some .ret)))))) else
  (Option.bind (y6) fun p23 =>
  (Option.bind (HS.ldSl p13 p23) fun p24 =>
  (letv (HS.lit p13 [[(.str y14)]] 1) fun p25 =>
  (Option.bind (HS.rows (p25.2) (p25.1) 1) fun p26 =>
  (Option.bind (HS.app (p25.2) p24 p26 1) fun p27 =>
  (Option.bind (y6) fun p28 =>
  (Option.bind (HS.sets (p27.2) p28 [(Sl.hv (p27.1))]) fun p29 =>
  (HS.endr p29 l none))))))))))))))
theorem J0_snd {D : Dp} {H : Hd} {l : Nat} (hD : DSound Try.prog base W0 D) (hH : HSound Try.prog base W0 β0 H)  {y3 : (Option HA)} {y4 : (Option HA)} {y5 : (Option HA)} {y6 : (Option HA)} {y14 : (List UInt8)} {S : HS} {p : HV × HS} {g0 g1 g2 g7 g8 g9 g10 g11 g12 g13 g15 g16 g17 g18 g19 g20 g21 g22 g23 : HV} (h : J0 D H l y3 y4 y5 y6 y14 S = some p) : HRun Try.prog base W0 β0 15 (some l) [.code c19, .beginRound, .code c20] ⟨[g0, g1, g2, (.ptr y3), (.ptr y4), (.ptr y5), (.ptr y6), g7, g8, g9, g10, g11, g12, g13, (.str y14), g15, g16, g17, g18, g19, g20, g21, g22, g23], []⟩ S (fun v S1 => v = p.1 ∧ S1 = p.2) := by
  unfold J0 at h
  refine q_region rfl rfl ?_
  refine qS 8 rfl (ok_assign · (.tmp rfl)) ?_
  refine hr_region_end ?_
  try dsimp only [w0, w1, w2, w3]
  obtain ⟨p13, hp13, h⟩ := bindo h
  refine q_begin hp13 ?_
  refine q_block rfl ?_
  refine q_seq rfl ?_
  refine q_seq rfl ?_
  refine q_region rfl rfl ?_
  obtain ⟨p14, hp14, h⟩ := bindo h
  obtain ⟨p15, hp15, h⟩ := bindo h
  refine qS 15 rfl (ok_load_s · sc36 (.tmp rfl) hp14 (ldSl_out hp15)) ?_
  refine qS 16 rfl (ok_len_sl (q := Sl.a p15) (n := Sl.len p15) (z := Sl.cap p15) · rfl tu36 (.tmp rfl)) ?_
  obtain ⟨p16, hp16, h⟩ := bindo h
  obtain ⟨p17, hp17, h⟩ := bindo h
  refine qS 17 rfl (ok_load_s · sc3 (.tmp rfl) hp16 (ldI_out hp17)) ?_
  refine qS 18 rfl (ok_ibin · (.tmp rfl) (.tmp rfl) rfl) ?_
  refine hr_region_end ?_
  try dsimp only [w0, w1, w2, w3]
  rcases ifc h with ⟨hc18, h⟩ | ⟨hc18, h⟩
  · refine q_cond_t rfl (.tmp rfl) (decide_eq_true hc18) ?_
    refine q_seq rfl ?_
    refine q_region rfl rfl ?_
    obtain ⟨p19, hp19, h⟩ := bindo h
    obtain ⟨p20, hp20, h⟩ := bindo h
    refine qN rfl (ok_store_s (v := (Sl.hv Sl.nil)) · sz36 (.tmp rfl) hp19 (.const fun _ => .slNil none) rfl hp20) ?_
    obtain ⟨p21, hp21, h⟩ := bindo h
    obtain ⟨p22, hp22, h⟩ := bindo h
    refine qN rfl (ok_store_s (v := (.bool false)) · sz4 (.tmp rfl) hp21 (.bool _) rfl hp22) ?_
    refine hr_region_end ?_
    try dsimp only [w0, w1, w2, w3]
    exact q_round_ret rfl h ⟨rfl, rfl⟩
  · refine q_cond_f rfl (.tmp rfl) (decide_eq_false hc18) ?_
    refine q_skipc rfl ?_
    refine q_region rfl rfl ?_
    obtain ⟨p23, hp23, h⟩ := bindo h
    obtain ⟨p24, hp24, h⟩ := bindo h
    refine qS 19 rfl (ok_load_s · sc36 (.tmp rfl) hp23 (ldSl_out hp24)) ?_
    refine qS 20 rfl (ok_move · (.tmp rfl)) ?_
    obtain ⟨p25, hp25, h⟩ := leto h
    refine qS 21 rfl (ok_buildSlice_s (xs := [(.tmp 20)]) el36 · rfl rfl (by decide) (.cons (.tmp rfl) Evs.nil) rfl rfl hp25) ?_
    obtain ⟨p26, hp26, h⟩ := bindo h
    obtain ⟨p27, hp27, h⟩ := bindo h
    refine qS 22 rfl (ok_append (s := p24) (s1 := (p25.1)) el36 · rfl rfl ⟨_, tu36⟩ (.tmp rfl) (.tmp rfl) hp26 hp27) ?_
    try dsimp only [w0, w1, w2, w3]
    obtain ⟨p28, hp28, h⟩ := bindo h
    obtain ⟨p29, hp29, h⟩ := bindo h
    refine qN rfl (ok_store_s (v := (Sl.hv (p27.1))) · sz36 (.tmp rfl) hp28 (.tmp rfl) rfl hp29) ?_
    refine hr_region_end ?_
    try dsimp only [w0, w1, w2, w3]
    refine hr_inBlock ?_
    exact q_round_end h ⟨rfl, rfl⟩
def f (D : Dp) (H : Hd) (x0 : (Option HA)) (x1 : Int) (S : HS) : Option ((Sl × Bool) × HS) :=
  (letv (HS.new S (.cells 1 [[(.int .i64 x1)]] true)) fun p1 =>
  (letv (HS.new p1 (.cells 1 [[(Sl.hv Sl.nil)]] true)) fun p2 =>
  (letv (HS.new p2 (.cells 1 [[(.bool false)]] true)) fun p3 =>
  (letv (HS.new p3 (.cells 1 [[(Sl.hv Sl.nil)]] true)) fun p4 =>
  (Option.bind (sendq_Queue_Lines.f x0 p4) fun p5 =>
  (Option.bind (HV.isNilFn p5.1) fun p6 =>
  (if (p6) = true then
  (Option.bind (HS.sets p5.2 (HA.cell0 p1.next) [(Sl.hv Sl.nil)]) fun p8 =>
  (Option.bind (HS.sets p8 (HA.cell0 p2.next) [(.bool false)]) fun p9 =>
  (Option.bind (HS.leave p9 []) fun p10 =>
  (Option.bind (HS.ldSl p10 (HA.cell0 p1.next)) fun p11 =>
  (Option.bind (HS.ldB p10 (HA.cell0 p2.next)) fun p12 =>
  some ((p11, p12), p10)))))) else
  (Option.bind (D (Hd.set H (HS.next p5.2 + 1) fun vs T =>
  (Option.bind (HS.lp T (HS.next p5.2 + 1)) fun u32 =>
  (Option.bind (args1 vs) fun ar30 =>
  (Option.bind (dS ar30) fun p31 =>
  (J0 D H (HS.next p5.2 + 1) (some (HA.cell0 S.next)) (some (HA.cell0 p1.next)) (some (HA.cell0 p2.next)) (some (HA.cell0 p3.next)) p31 T))))) p5.1 [.fn (.yield (HS.next p5.2 + 1)) [] []] (HS.new (HS.new p5.2 .defer) (.loop .ready none))) fun p33 =>
  (Option.bind (HS.finish p33.2 (HS.next p5.2 + 1)) fun p34 =>
  (Option.bind (pcode p34.1) fun n35 =>
  (if n35 = 0 then
  (Option.bind (HS.ldSl p34.2 (HA.cell0 p3.next)) fun p37 =>
  (Option.bind (HS.sets p34.2 (HA.cell0 p1.next) [(Sl.hv p37)]) fun p38 =>
  (Option.bind (HS.sets p38 (HA.cell0 p2.next) [(.bool true)]) fun p39 =>
  (Option.bind (HS.leave p39 (HS.next p5.2 :: [])) fun p40 =>
  (Option.bind (HS.ldSl p40 (HA.cell0 p1.next)) fun p41 =>
  (Option.bind (HS.ldB p40 (HA.cell0 p2.next)) fun p42 =>
  some ((p41, p42), p40))))))) else
  (if n35 = 1 then
  (Option.bind (HS.leave p34.2 (HS.next p5.2 :: [])) fun p44 =>
  (Option.bind (HS.ldSl p44 (HA.cell0 p1.next)) fun p45 =>
  (Option.bind (HS.ldB p44 (HA.cell0 p2.next)) fun p46 =>
  some ((p45, p46), p44)))) else
  none))))))))))))
theorem snd {D : Dp} {H : Hd} {x0 : (Option HA)} {x1 : Int} {S : HS} (hD : DSound Try.prog base W0 D) (hH : HSound Try.prog base W0 β0 H)  {p : (Sl × Bool) × HS} (h : f D H x0 x1 S = some p) : HCall Try.prog base W0 β0 15 [(.ptr x0), (.int .i64 x1)] S (fun v S1 => v = (.tup [(Sl.hv p.1.1), (.bool p.1.2)]) ∧ S1 = p.2) := by
  unfold f at h
  refine HCall.of_run at_.at_ body ?_
  show HRun Try.prog base W0 β0 15 none [.code c0] ⟨[(.ptr x0), (.int .i64 x1), τ, τ, τ, τ, τ, τ, τ, τ, τ, τ, τ, τ, τ, τ, τ, τ, τ, τ, τ, τ, τ, τ], []⟩ S _
  refine q_seq rfl ?_
  refine q_region rfl rfl ?_
  obtain ⟨p1, hp1, h⟩ := leto h
  refine qS 3 rfl (ok_box_e · (.tmp rfl) (Nat.zero_lt_succ _) rfl hp1) ?_
  obtain ⟨p2, hp2, h⟩ := leto h
  refine qS 4 rfl (ok_alloc_e · zi36 zr36 (by decide) rfl hp2) ?_
  obtain ⟨p3, hp3, h⟩ := leto h
  refine qS 5 rfl (ok_alloc_e · zi4 zr4 (by decide) rfl hp3) ?_
  refine hr_region_end ?_
  try dsimp only [w0, w1, w2, w3]
  refine q_seq rfl ?_
  refine q_region rfl rfl ?_
  obtain ⟨p4, hp4, h⟩ := leto h
  refine qS 6 rfl (ok_alloc_e · zi36 zr36 (by decide) rfl hp4) ?_
  refine hr_region_end ?_
  try dsimp only [w0, w1, w2, w3]
  refine q_seq rfl ?_
  refine q_region rfl rfl ?_
  refine qS 9 rfl (ok_move · (.tmp rfl)) ?_
  obtain ⟨p5, hp5, h⟩ := bindo h
  refine q_call (dst := some 10) rfl (.func _) (.cons (.tmp rfl) Evs.nil) (HInv.static sendq_Queue_Lines.at_ sendq_Queue_Lines.body (sendq_Queue_Lines.snd  hp5)) ?_
  rintro _ _ ⟨rfl, rfl⟩
  refine qS 7 rfl (ok_assign · (.tmp rfl)) ?_
  refine hr_region_end ?_
  try dsimp only [w0, w1, w2, w3]
  refine q_seq rfl ?_
  refine q_seq rfl ?_
  refine q_region rfl rfl ?_
  refine qS 11 rfl (ok_move · (.tmp rfl)) ?_
  obtain ⟨p6, hp6, h⟩ := bindo h
  refine qS 12 rfl (ok_nil_fn · tu50 (.tmp rfl) hp6 (.inl ⟨rfl, rfl⟩)) ?_
  refine hr_region_end ?_
  try dsimp only [w0, w1, w2, w3]
  rcases ifc h with ⟨hc7, h⟩ | ⟨hc7, h⟩
  · refine q_cond_t rfl (.tmp rfl) hc7 ?_
    refine q_seq rfl ?_
    refine q_region rfl rfl ?_
    obtain ⟨p8, hp8, h⟩ := bindo h
    refine qN rfl (ok_store_s (v := (Sl.hv Sl.nil)) · sz36 (.tmp rfl) rfl (.const fun _ => .slNil none) rfl hp8) ?_
    obtain ⟨p9, hp9, h⟩ := bindo h
    refine qN rfl (ok_store_s (v := (.bool false)) · sz4 (.tmp rfl) rfl (.bool _) rfl hp9) ?_
    refine hr_region_end ?_
    try dsimp only [w0, w1, w2, w3]
    obtain ⟨p10, hp10, h⟩ := bindo h
    obtain ⟨p11, hp11, h⟩ := bindo h
    obtain ⟨p12, hp12, h⟩ := bindo h
    cases h
    exact q_ret rfl at_.at_ hp10 (resL (rs := [.cell 4 36, .cell 5 4]) rfl (.cons (.cell rfl rfl sc36 (ldSl_out hp11)) (.cons (.cell rfl rfl sc4 (ldB_out hp12)) .nil)) (by simp)) ⟨rfl, rfl⟩
  · refine q_cond_f rfl (.tmp rfl) (bfalse hc7) ?_
    refine q_skipc rfl ?_
    refine q_seq rfl ?_
    refine q_seq rfl ?_
    refine q_region rfl rfl ?_
    refine qS 13 rfl (ok_move · (.tmp rfl)) ?_
    refine hr_region_end ?_
    try dsimp only [w0, w1, w2, w3]
    refine q_block rfl ?_
    obtain ⟨p33, hp33, h⟩ := bindo h
    obtain ⟨p34, hp34, h⟩ := bindo h
    obtain ⟨n35, hn35, h⟩ := bindo h
    refine q_range (D := D) (H := H) rfl (.tmp rfl) hD hH hp33 hp34 ?_ ?_
    · intro β1 hle hLA vs T u T' hr
      obtain ⟨u32, hu32, hr⟩ := bindo hr
      obtain ⟨ar30, har30, hr⟩ := bindo hr
      obtain ⟨p31, hp31, hr⟩ := bindo hr
      rw [args1_out har30]
      refine q_yield2 hLA hu32 rfl rfl ?_
      rw [dS_out hp31]
      simp only [HAct.params, List.set_cons_zero, List.set_cons_succ]
      exact J0_snd hD (hH.up hle) hr
    · rcases ifc h with ⟨hc36, h⟩ | ⟨hc36, h⟩
      · rw [pcode0 hn35 hc36]
        simp only [jumped_none, jumped_some]
        refine hr_inBlock ?_
        refine q_seq rfl ?_
        refine q_region rfl rfl ?_
        obtain ⟨p37, hp37, h⟩ := bindo h
        refine qS 23 rfl (ok_load_s · sc36 (.tmp rfl) rfl (ldSl_out hp37)) ?_
        obtain ⟨p38, hp38, h⟩ := bindo h
        refine qN rfl (ok_store_s (v := (Sl.hv p37)) · sz36 (.tmp rfl) rfl (.tmp rfl) rfl hp38) ?_
        obtain ⟨p39, hp39, h⟩ := bindo h
        refine qN rfl (ok_store_s (v := (.bool true)) · sz4 (.tmp rfl) rfl (.bool _) rfl hp39) ?_
        refine hr_region_end ?_
        try dsimp only [w0, w1, w2, w3]
        obtain ⟨p40, hp40, h⟩ := bindo h
        obtain ⟨p41, hp41, h⟩ := bindo h
        obtain ⟨p42, hp42, h⟩ := bindo h
        cases h
        exact q_ret rfl at_.at_ hp40 (resL (rs := [.cell 4 36, .cell 5 4]) rfl (.cons (.cell rfl rfl sc36 (ldSl_out hp41)) (.cons (.cell rfl rfl sc4 (ldB_out hp42)) .nil)) (by simp)) ⟨rfl, rfl⟩
      · rcases ifc h with ⟨hc43, h⟩ | ⟨hc43, h⟩
        · rw [pcode1 hn35 hc43]
          simp only [jumped_none, jumped_some]
          obtain ⟨p44, hp44, h⟩ := bindo h
          obtain ⟨p45, hp45, h⟩ := bindo h
          obtain ⟨p46, hp46, h⟩ := bindo h
          cases h
          exact q_ret rfl at_.at_ hp44 (resL (rs := [.cell 4 36, .cell 5 4]) rfl (.cons (.cell rfl rfl sc36 (ldSl_out hp45)) (.cons (.cell rfl rfl sc4 (ldB_out hp46)) .nil)) (by simp)) ⟨rfl, rfl⟩
        · cases h
end
end rollcalllaw08_lines
namespace sendq_Queue_Over
theorem at_ : FnAt Try.prog 17 Try.f17 := ⟨Try.func17, by kernel_rfl⟩
noncomputable def d0 := (Try.f17.body).getD .skip
noncomputable def r1 := kR (kA d0)
noncomputable def r3 := kR (kA (kB d0))
noncomputable def c4 : Code := .ret
noncomputable def c0 : Code := .seq (.region 0 r1 false) (.seq (.region 1 r3 false) c4)
theorem body : Try.f17.body = some c0 := by kernel_rfl
section
variable {base : Nat} {W0 : World} {β0 : Bt}
def J0  (y10 : Bool) (S : HS) : Option ((Bool) × HS) :=
  some (y10, S)
theorem J0_snd   {y10 : Bool} {S : HS} {p : (Bool) × HS} {g0 g1 g2 g3 g4 g5 g6 g7 g8 g9 : HV} (h : J0  y10 S = some p) : HRun Try.prog base W0 β0 17 none [.inRegion r3 [8], .code c4] ⟨[g0, g1, g2, g3, g4, g5, g6, g7, g8, g9, (.bool y10)], []⟩ S (fun v S1 => v = (.bool p.1) ∧ S1 = p.2) := by
  unfold J0 at h
  refine qS 2 rfl (ok_assign · (.tmp rfl)) ?_
  refine hr_region_end ?_
  try dsimp only [w0, w1, w2, w3]
  cases h
  exact q_ret rfl at_.at_ rfl (res1 rfl rfl) ⟨rfl, rfl⟩
def f (x0 : (Option HA)) (S : HS) : Option ((Bool) × HS) :=
  (if (!Option.isNone x0) = true then
  (Option.bind (x0) fun p2 =>
  (Option.bind (HS.ldB S (HA.fld p2 4)) fun p3 =>
  J0 p3 S)) else
  J0 false S)
theorem snd {x0 : (Option HA)} {S : HS}  {p : (Bool) × HS} (h : f x0 S = some p) : HCall Try.prog base W0 β0 17 [(.ptr x0)] S (fun v S1 => v = (.bool p.1) ∧ S1 = p.2) := by
  unfold f at h
  refine HCall.of_run at_.at_ body ?_
  show HRun Try.prog base W0 β0 17 none [.code c0] ⟨[(.ptr x0), τ, τ, τ, τ, τ, τ, τ, τ, τ, τ], []⟩ S _
  refine q_seq rfl ?_
  refine q_region rfl rfl ?_
  refine qS 2 rfl (ok_assign · (.bool _)) ?_
  refine hr_region_end ?_
  try dsimp only [w0, w1, w2, w3]
  refine q_seq rfl ?_
  refine q_region rfl rfl ?_
  refine qS 3 rfl (ok_move · (.tmp rfl)) ?_
  refine qS 4 rfl (ok_nil_ptr · tu25 (.tmp rfl) (.inr ⟨rfl, rfl⟩)) ?_
  refine qS 5 rfl (ok_move · (.tmp rfl)) ?_
  rcases ifc h with ⟨hc1, h⟩ | ⟨hc1, h⟩
  · refine qG 5 6 rfl hc1 (ok_move · (.tmp rfl)) ?_
    try dsimp only [w0, w1, w2, w3]
    obtain ⟨p2, hp2, h⟩ := bindo h
    refine qG 5 7 rfl hc1 (ok_nilCheck_p · (.tmp rfl) hp2) ?_
    refine qG 5 8 rfl hc1 (ok_fieldAddr_s · fi53_4 (by decide) (.tmp rfl) rfl) ?_
    obtain ⟨p3, hp3, h⟩ := bindo h
    refine qG 5 9 rfl hc1 (ok_load_s · sc4 (.tmp rfl) rfl (ldB_out hp3)) ?_
    refine qS 10 rfl (ok_pick_tt · (.tmp rfl) hc1 (.tmp rfl)) ?_
    try dsimp only [w0, w1, w2, w3]
    try dsimp only [w0, w1, w2, w3]
    exact J0_snd  h
  · refine q_skip (dst := some 6) (t := 5) rfl rfl rfl (bfalse hc1) ?_
    try dsimp only [w0, w1, w2, w3]
    refine q_skip (dst := some 7) (t := 5) rfl rfl rfl (bfalse hc1) ?_
    refine q_skip (dst := some 8) (t := 5) rfl rfl rfl (bfalse hc1) ?_
    refine q_skip (dst := some 9) (t := 5) rfl rfl rfl (bfalse hc1) ?_
    refine qS 10 rfl (ok_pick_ff · (.tmp rfl) (bfalse hc1) (.bool _)) ?_
    try dsimp only [w0, w1, w2, w3]
    try dsimp only [w0, w1, w2, w3]
    exact J0_snd  h
end
end sendq_Queue_Over
namespace rollcallref08_Queue_Lines
theorem at_ : FnAt Try.prog 19 Try.f19 := ⟨Try.func19, by kernel_rfl⟩
noncomputable def d0 := (Try.f19.body).getD .skip
noncomputable def r1 := kR (kA d0)
noncomputable def r3 := kR (kA (kB d0))
noncomputable def r5 := kR (kA (kB (kB d0)))
noncomputable def d6 := kB (kB (kB d0))
noncomputable def r8 := kR (kA (kA d6))
noncomputable def d10 := kA (kB (kA d6))
noncomputable def r13 := kR (kA (kA (kA d10)))
noncomputable def d20 := kA (kA (kA (kB (kA d10))))
noncomputable def r21 := kR (kA d20)
noncomputable def r23 := kR (kA (kB d20))
noncomputable def r25 := kR (kB (kA (kA (kB (kA d10)))))
noncomputable def r26 := kR (kB (kB (kA d10)))
noncomputable def r28 := kR (kA (kB d6))
noncomputable def c27 : Code := .seq (.region 9 r28 false) .ret
noncomputable def c26 : Code := .region 5 r26 false
noncomputable def c25 : Code := .region 8 r25 false
noncomputable def c11 : Code := .seq (.seq (.region 4 r13 false) (.cond (.tmp 12) .skip (.exit 0))) (.seq (.block 1 (.seq (.seq (.region 6 r21 false) (.cond (.tmp 20) (.region 7 r23 false) .skip)) c25)) c26)
noncomputable def c0 : Code := .seq (.region 0 r1 false) (.seq (.region 1 r3 false) (.seq (.region 2 r5 false) (.seq (.seq (.region 3 r8 false) (.block 0 (.loop c11))) c27)))
theorem body : Try.f19.body = some c0 := by kernel_rfl
section
variable {base : Nat} {W0 : World} {β0 : Bt}
def J1 (k : Nat) (rec0 : (Option HA) → Sl → Int → Int → HS → Option ((Sl) × HS)) (y0 : (Option HA)) (y3 : Sl) (y4 : Int) (y5 : Int) (S : HS) : Option ((Sl) × HS) :=
  (Option.bind (y0) fun p14 =>
  (Option.bind (HS.ldSl S (HA.fld p14 1)) fun p15 =>
  (Option.bind (HS.idx S p15 y5 1) fun p16 =>
  (Option.bind (HS.ldS S p16) fun p17 =>
  rec0 y0 y3 (w64 ((w64 (y4 + (List.length p17 : Int))) + 2)) (w64 (y5 + 1)) S))))
theorem J1_snd {k : Nat} {rec0 : (Option HA) → Sl → Int → Int → HS → Option ((Sl) × HS)} (hrec0 : ∀ ⦃y0 : (Option HA)⦄ ⦃y3 : Sl⦄ ⦃y4 : Int⦄ ⦃y5 : Int⦄ ⦃S : HS⦄ ⦃p : (Sl) × HS⦄ ⦃g1 g2 g6 g7 g8 g9 g10 g11 g12 g13 g14 g15 g16 g17 g18 g19 g20 g21 g22 g23 g24 g25 g26 g27 g28 g29 g30 g31 g32 g33 g34 g35 g36 g37 g38 g39 g40 g41 g42 : HV⦄, rec0 y0 y3 y4 y5 S = some p → HRun Try.prog base W0 β0 19 none [.inLoop c11, .inBlock 0, .code c27] ⟨[(.ptr y0), g1, g2, (Sl.hv y3), (.int .i64 y4), (.int .i64 y5), g6, g7, g8, g9, g10, g11, g12, g13, g14, g15, g16, g17, g18, g19, g20, g21, g22, g23, g24, g25, g26, g27, g28, g29, g30, g31, g32, g33, g34, g35, g36, g37, g38, g39, g40, g41, g42], []⟩ S (fun v S1 => v = (Sl.hv p.1) ∧ S1 = p.2)) {y0 : (Option HA)} {y3 : Sl} {y4 : Int} {y5 : Int} {S : HS} {p : (Sl) × HS} {g1 g2 g6 g7 g8 g9 g10 g11 g12 g13 g14 g15 g16 g17 g18 g19 g20 g21 g22 g23 g24 g25 g26 g27 g28 g29 g30 g31 g32 g33 g34 g35 g36 g37 g38 g39 g40 g41 g42 : HV} (h : J1 k rec0 y0 y3 y4 y5 S = some p) : HRun Try.prog base W0 β0 19 none [.code c25, .inBlock 1, .code c26, .inLoop c11, .inBlock 0, .code c27] ⟨[(.ptr y0), g1, g2, (Sl.hv y3), (.int .i64 y4), (.int .i64 y5), g6, g7, g8, g9, g10, g11, g12, g13, g14, g15, g16, g17, g18, g19, g20, g21, g22, g23, g24, g25, g26, g27, g28, g29, g30, g31, g32, g33, g34, g35, g36, g37, g38, g39, g40, g41, g42], []⟩ S (fun v S1 => v = (Sl.hv p.1) ∧ S1 = p.2) := by
  unfold J1 at h
  refine q_region rfl rfl ?_
  refine qS 31 rfl (ok_move · (.tmp rfl)) ?_
  refine qS 32 rfl (ok_move · (.tmp rfl)) ?_
  obtain ⟨p14, hp14, h⟩ := bindo h
  refine qS 33 rfl (ok_nilCheck_p · (.tmp rfl) hp14) ?_
  refine qS 34 rfl (ok_fieldAddr_s · fi40_1 (by decide) (.tmp rfl) rfl) ?_
  try dsimp only [w0, w1, w2, w3]
  obtain ⟨p15, hp15, h⟩ := bindo h
  refine qS 35 rfl (ok_load_s · sc36 (.tmp rfl) rfl (ldSl_out hp15)) ?_
  refine qS 36 rfl (ok_move · (.tmp rfl)) ?_
  obtain ⟨p16, hp16, h⟩ := bindo h
  refine qS 37 rfl (ok_indexAddr (s := p15) · tu36 sz9 (.tmp rfl) (.tmp rfl) hp16) ?_
  obtain ⟨p17, hp17, h⟩ := bindo h
  refine qS 38 rfl (ok_load_s · sc9 (.tmp rfl) rfl (ldS_out hp17)) ?_
  try dsimp only [w0, w1, w2, w3]
  refine qS 39 rfl (ok_len_str · rfl tu9 (.tmp rfl)) ?_
  refine qS 40 rfl (ok_ibin · (.tmp rfl) (.tmp rfl) rfl) ?_
  refine qS 41 rfl (ok_ibin · (.tmp rfl) (.int _ _) rfl) ?_
  refine qS 4 rfl (ok_assign · (.tmp rfl)) ?_
  refine hr_region_end ?_
  try dsimp only [w0, w1, w2, w3]
  refine hr_inBlock ?_
  refine q_region rfl rfl ?_
  refine qS 13 rfl (ok_move · (.tmp rfl)) ?_
  refine qS 14 rfl (ok_ibin · (.tmp rfl) (.int _ _) rfl) ?_
  refine qS 5 rfl (ok_assign · (.tmp rfl)) ?_
  refine hr_region_end ?_
  try dsimp only [w0, w1, w2, w3]
  try dsimp only [w0, w1, w2, w3]
  exact hrec0 h
def L0 (k : Nat) : Nat → (Option HA) → Sl → Int → Int → HS → Option ((Sl) × HS)
  | 0, _, _, _, _, _ => none
  | n + 1, y0, y3, y4, y5, S =>
    (Option.bind (y0) fun p1 =>
    (Option.bind (HS.ldSl S (HA.fld p1 1)) fun p2 =>
    (if y5 < (Sl.len p2 : Int) then
    (Option.bind (y0) fun p4 =>
    (Option.bind (HS.ldI S .i64 (HA.fld p4 3)) fun p5 =>
    (if y4 ≥ p5 then
    (Option.bind (y0) fun p7 =>
    (Option.bind (HS.ldSl S (HA.fld p7 1)) fun p8 =>
    (Option.bind (HS.idx S p8 y5 1) fun p9 =>
    (Option.bind (HS.ldS S p9) fun p10 =>
    (letv (HS.lit S [[(.str p10)]] 1) fun p11 =>
    (Option.bind (HS.rows (p11.2) (p11.1) 1) fun p12 =>
    (Option.bind (HS.app (p11.2) y3 p12 1) fun p13 =>
    J1 k (L0 k n) y0 (p13.1) y4 y5 (p13.2)))))))) else
    J1 k (L0 k n) y0 y3 y4 y5 S))) else
    some (y3, S))))
theorem L0_snd {k : Nat}  : ∀ {n : Nat} ⦃y0 : (Option HA)⦄ ⦃y3 : Sl⦄ ⦃y4 : Int⦄ ⦃y5 : Int⦄ ⦃S : HS⦄ ⦃p : (Sl) × HS⦄ ⦃g1 g2 g6 g7 g8 g9 g10 g11 g12 g13 g14 g15 g16 g17 g18 g19 g20 g21 g22 g23 g24 g25 g26 g27 g28 g29 g30 g31 g32 g33 g34 g35 g36 g37 g38 g39 g40 g41 g42 : HV⦄, L0 k n y0 y3 y4 y5 S = some p → HRun Try.prog base W0 β0 19 none [.inLoop c11, .inBlock 0, .code c27] ⟨[(.ptr y0), g1, g2, (Sl.hv y3), (.int .i64 y4), (.int .i64 y5), g6, g7, g8, g9, g10, g11, g12, g13, g14, g15, g16, g17, g18, g19, g20, g21, g22, g23, g24, g25, g26, g27, g28, g29, g30, g31, g32, g33, g34, g35, g36, g37, g38, g39, g40, g41, g42], []⟩ S (fun v S1 => v = (Sl.hv p.1) ∧ S1 = p.2) := by
  intro n
  induction n with
  | zero => intro _ _ _ _ _ _ _ _ _ _ _ _ _ _ _ _ _ _ _ _ _ _ _ _ _ _ _ _ _ _ _ _ _ _ _ _ _ _ _ _ _ _ _ _ _ h; cases h
  | succ n ih =>
    intro y0 y3 y4 y5 S p g1 g2 g6 g7 g8 g9 g10 g11 g12 g13 g14 g15 g16 g17 g18 g19 g20 g21 g22 g23 g24 g25 g26 g27 g28 g29 g30 g31 g32 g33 g34 g35 g36 g37 g38 g39 g40 g41 g42 h
    simp only [L0] at h
    refine hr_inLoop ?_
    refine q_seq rfl ?_
    refine q_seq rfl ?_
    refine q_region rfl rfl ?_
    refine qS 6 rfl (ok_move · (.tmp rfl)) ?_
    refine qS 7 rfl (ok_move · (.tmp rfl)) ?_
    obtain ⟨p1, hp1, h⟩ := bindo h
    refine qS 8 rfl (ok_nilCheck_p · (.tmp rfl) hp1) ?_
    refine qS 9 rfl (ok_fieldAddr_s · fi40_1 (by decide) (.tmp rfl) rfl) ?_
    try dsimp only [w0, w1, w2, w3]
    obtain ⟨p2, hp2, h⟩ := bindo h
    refine qS 10 rfl (ok_load_s · sc36 (.tmp rfl) rfl (ldSl_out hp2)) ?_
    refine qS 11 rfl (ok_len_sl (q := Sl.a p2) (n := Sl.len p2) (z := Sl.cap p2) · rfl tu36 (.tmp rfl)) ?_
    refine qS 12 rfl (ok_ibin · (.tmp rfl) (.tmp rfl) rfl) ?_
    refine hr_region_end ?_
    try dsimp only [w0, w1, w2, w3]
    rcases ifc h with ⟨hc3, h⟩ | ⟨hc3, h⟩
    · refine q_cond_t rfl (.tmp rfl) (decide_eq_true hc3) ?_
      refine q_skipc rfl ?_
      refine q_seq rfl ?_
      refine q_block rfl ?_
      refine q_seq rfl ?_
      refine q_seq rfl ?_
      refine q_region rfl rfl ?_
      refine qS 15 rfl (ok_move · (.tmp rfl)) ?_
      refine qS 16 rfl (ok_move · (.tmp rfl)) ?_
      obtain ⟨p4, hp4, h⟩ := bindo h
      refine qS 17 rfl (ok_nilCheck_p · (.tmp rfl) hp4) ?_
      refine qS 18 rfl (ok_fieldAddr_s · fi40_3 (by decide) (.tmp rfl) rfl) ?_
      try dsimp only [w0, w1, w2, w3]
      obtain ⟨p5, hp5, h⟩ := bindo h
      refine qS 19 rfl (ok_load_s · sc3 (.tmp rfl) rfl (ldI_out hp5)) ?_
      refine qS 20 rfl (ok_ibin · (.tmp rfl) (.tmp rfl) rfl) ?_
      refine hr_region_end ?_
      try dsimp only [w0, w1, w2, w3]
      rcases ifc h with ⟨hc6, h⟩ | ⟨hc6, h⟩
      · refine q_cond_t rfl (.tmp rfl) (decide_eq_true hc6) ?_
        refine q_region rfl rfl ?_
        refine qS 21 rfl (ok_move · (.tmp rfl)) ?_
        refine qS 22 rfl (ok_move · (.tmp rfl)) ?_
        obtain ⟨p7, hp7, h⟩ := bindo h
        refine qS 23 rfl (ok_nilCheck_p · (.tmp rfl) hp7) ?_
        refine qS 24 rfl (ok_fieldAddr_s · fi40_1 (by decide) (.tmp rfl) rfl) ?_
        try dsimp only [w0, w1, w2, w3]
        obtain ⟨p8, hp8, h⟩ := bindo h
        refine qS 25 rfl (ok_load_s · sc36 (.tmp rfl) rfl (ldSl_out hp8)) ?_
        refine qS 26 rfl (ok_move · (.tmp rfl)) ?_
        obtain ⟨p9, hp9, h⟩ := bindo h
        refine qS 27 rfl (ok_indexAddr (s := p8) · tu36 sz9 (.tmp rfl) (.tmp rfl) hp9) ?_
        obtain ⟨p10, hp10, h⟩ := bindo h
        refine qS 28 rfl (ok_load_s · sc9 (.tmp rfl) rfl (ldS_out hp10)) ?_
        try dsimp only [w0, w1, w2, w3]
        obtain ⟨p11, hp11, h⟩ := leto h
        refine qS 29 rfl (ok_buildSlice_s (xs := [(.tmp 28)]) el36 · rfl rfl (by decide) (.cons (.tmp rfl) Evs.nil) rfl rfl hp11) ?_
        obtain ⟨p12, hp12, h⟩ := bindo h
        obtain ⟨p13, hp13, h⟩ := bindo h
        refine qS 30 rfl (ok_append (s := y3) (s1 := (p11.1)) el36 · rfl rfl ⟨_, tu36⟩ (.tmp rfl) (.tmp rfl) hp12 hp13) ?_
        refine qS 3 rfl (ok_assign · (.tmp rfl)) ?_
        refine hr_region_end ?_
        try dsimp only [w0, w1, w2, w3]
        try dsimp only [w0, w1, w2, w3]
        exact J1_snd ih h
      · refine q_cond_f rfl (.tmp rfl) (decide_eq_false hc6) ?_
        refine q_skipc rfl ?_
        try dsimp only [w0, w1, w2, w3]
        exact J1_snd ih h
    · refine q_cond_f rfl (.tmp rfl) (decide_eq_false hc3) ?_
      refine q_exit rfl rfl ?_
      refine q_seq rfl ?_
      refine q_region rfl rfl ?_
      refine qS 42 rfl (ok_move · (.tmp rfl)) ?_
      refine qS 2 rfl (ok_assign · (.tmp rfl)) ?_
      refine hr_region_end ?_
      try dsimp only [w0, w1, w2, w3]
      cases h
      exact q_ret rfl at_.at_ rfl (res1 rfl rfl) ⟨rfl, rfl⟩
def f (k : Nat) (x0 : (Option HA)) (S : HS) : Option ((Sl) × HS) :=
  L0 k k x0 Sl.nil 0 0 S
theorem snd {k : Nat} {x0 : (Option HA)} {S : HS}  {p : (Sl) × HS} (h : f k x0 S = some p) : HCall Try.prog base W0 β0 19 [(.ptr x0)] S (fun v S1 => v = (Sl.hv p.1) ∧ S1 = p.2) := by
  unfold f at h
  refine HCall.of_run at_.at_ body ?_
  show HRun Try.prog base W0 β0 19 none [.code c0] ⟨[(.ptr x0), τ, τ, τ, τ, τ, τ, τ, τ, τ, τ, τ, τ, τ, τ, τ, τ, τ, τ, τ, τ, τ, τ, τ, τ, τ, τ, τ, τ, τ, τ, τ, τ, τ, τ, τ, τ, τ, τ, τ, τ, τ, τ], []⟩ S _
  refine q_seq rfl ?_
  refine q_region rfl rfl ?_
  refine qS 2 rfl (ok_assign · (.const fun _ => .slNil none)) ?_
  refine hr_region_end ?_
  try dsimp only [w0, w1, w2, w3]
  refine q_seq rfl ?_
  refine q_region rfl rfl ?_
  refine qS 3 rfl (ok_assign · (.const fun _ => .slNil none)) ?_
  refine hr_region_end ?_
  try dsimp only [w0, w1, w2, w3]
  refine q_seq rfl ?_
  refine q_region rfl rfl ?_
  refine qS 4 rfl (ok_assign · (.int _ _)) ?_
  refine hr_region_end ?_
  try dsimp only [w0, w1, w2, w3]
  refine q_seq rfl ?_
  refine q_seq rfl ?_
  refine q_region rfl rfl ?_
  refine qS 5 rfl (ok_assign · (.int _ _)) ?_
  refine hr_region_end ?_
  try dsimp only [w0, w1, w2, w3]
  refine q_block rfl ?_
  refine q_loop rfl ?_
  try dsimp only [w0, w1, w2, w3]
  exact L0_snd  h
end
end rollcallref08_Queue_Lines
namespace rollcallref01_Texts
theorem at_ : FnAt Try.prog 18 Try.f18 := ⟨Try.func18, by kernel_rfl⟩
noncomputable def d0 := (Try.f18.body).getD .skip
noncomputable def r1 := kR (kA d0)
noncomputable def r4 := kR (kA (kA (kB d0)))
noncomputable def r7 := kR (kA (kA (kB (kA (kB d0)))))
noncomputable def d11 := kA (kB (kB d0))
noncomputable def r12 := kR (kA d11)
noncomputable def d15 := kA (kA (kB d11))
noncomputable def r17 := kR (kA (kA d15))
noncomputable def r24 := kR (kA (kA (kA (kB d15))))
noncomputable def r27 := kR (kA (kA (kB (kA (kA (kB d15))))))
noncomputable def r30 := kR (kB (kB d15))
noncomputable def r32 := kR (kA (kB (kB (kB d0))))
noncomputable def c31 : Code := .seq (.region 8 r32 false) .ret
noncomputable def c15 : Code := .seq (.seq (.region 4 r17 false) (.cond (.tmp 14) .skip (.exit 0))) (.seq (.block 1 (.seq (.region 6 r24 true) (.cond (.tmp 25) (.seq (.region 7 r27 false) .ret) .skip))) (.region 5 r30 false))
noncomputable def c0 : Code := .seq (.region 0 r1 false) (.seq (.seq (.region 1 r4 false) (.cond (.tmp 10) (.seq (.region 2 r7 false) .ret) .skip)) (.seq (.seq (.region 3 r12 false) (.block 0 (.loop c15))) c31))
theorem body : Try.f18.body = some c0 := by kernel_rfl
section
variable {base : Nat} {W0 : World} {β0 : Bt}
def L0 (k : Nat) : Nat → Sl → Sl → Int → HS → Option ((Bool) × HS)
  | 0, _, _, _, _ => none
  | n + 1, y0, y1, y5, S =>
    (if y5 < (Sl.len y0 : Int) then
    (Option.bind (HS.idx S y0 y5 1) fun p3 =>
    (Option.bind (HS.ldS S p3) fun p4 =>
    (Option.bind (HS.idx S y1 y5 1) fun p5 =>
    (Option.bind (HS.ldS S p5) fun p6 =>
    (if (!decide (p4 = p6)) = true then
    some (false, S) else
    (L0 k n) y0 y1 (w64 (y5 + 1)) S))))) else
    some (true, S))
theorem L0_snd {k : Nat}  : ∀ {n : Nat} ⦃y0 : Sl⦄ ⦃y1 : Sl⦄ ⦃y5 : Int⦄ ⦃S : HS⦄ ⦃p : (Bool) × HS⦄ ⦃g2 g3 g4 g6 g7 g8 g9 g10 g11 g12 g13 g14 g15 g16 g17 g18 g19 g20 g21 g22 g23 g24 g25 : HV⦄, L0 k n y0 y1 y5 S = some p → HRun Try.prog base W0 β0 18 none [.inLoop c15, .inBlock 0, .code c31] ⟨[(Sl.hv y0), (Sl.hv y1), g2, g3, g4, (.int .i64 y5), g6, g7, g8, g9, g10, g11, g12, g13, g14, g15, g16, g17, g18, g19, g20, g21, g22, g23, g24, g25], []⟩ S (fun v S1 => v = (.bool p.1) ∧ S1 = p.2) := by
  intro n
  induction n with
  | zero => intro _ _ _ _ _ _ _ _ _ _ _ _ _ _ _ _ _ _ _ _ _ _ _ _ _ _ _ _ h; cases h
  | succ n ih =>
    intro y0 y1 y5 S p g2 g3 g4 g6 g7 g8 g9 g10 g11 g12 g13 g14 g15 g16 g17 g18 g19 g20 g21 g22 g23 g24 g25 h
    simp only [L0] at h
    refine hr_inLoop ?_
    refine q_seq rfl ?_
    refine q_seq rfl ?_
    refine q_region rfl rfl ?_
    refine qS 11 rfl (ok_move · (.tmp rfl)) ?_
    refine qS 12 rfl (ok_move · (.tmp rfl)) ?_
    refine qS 13 rfl (ok_len_sl (q := Sl.a y0) (n := Sl.len y0) (z := Sl.cap y0) · rfl tu36 (.tmp rfl)) ?_
    refine qS 14 rfl (ok_ibin · (.tmp rfl) (.tmp rfl) rfl) ?_
    refine hr_region_end ?_
    try dsimp only [w0, w1, w2, w3]
    rcases ifc h with ⟨hc2, h⟩ | ⟨hc2, h⟩
    · refine q_cond_t rfl (.tmp rfl) (decide_eq_true hc2) ?_
      refine q_skipc rfl ?_
      refine q_seq rfl ?_
      refine q_block rfl ?_
      refine q_seq rfl ?_
      refine x_start (cls := [0, 0, 1, 1, 0, 0, 1, 1, 0]) (rk := [0, 1, 2, 3, 4, 5, 6, 7, 8]) rfl (by kernel_rfl) ?_
      refine yf 17 [0] rfl (ok_move · (.tmp rfl)) ?_
      refine yf 18 [5] rfl (ok_move · (.tmp rfl)) ?_
      obtain ⟨p3, hp3, h⟩ := bindo h
      refine yr 19 [17, 18] rfl (ok_indexAddr (s := y0) · tu36 sz9 (.tmp rfl) (.tmp rfl) hp3) ?_
      obtain ⟨p4, hp4, h⟩ := bindo h
      refine yr 20 [19] rfl (ok_load_s · sc9 (.tmp rfl) rfl (ldS_out hp4)) ?_
      try dsimp only [w0, w1, w2, w3]
      refine yf 21 [1] rfl (ok_move · (.tmp rfl)) ?_
      refine yf 22 [5] rfl (ok_move · (.tmp rfl)) ?_
      obtain ⟨p5, hp5, h⟩ := bindo h
      refine yr 23 [21, 22] rfl (ok_indexAddr (s := y1) · tu36 sz9 (.tmp rfl) (.tmp rfl) hp5) ?_
      obtain ⟨p6, hp6, h⟩ := bindo h
      refine yr 24 [23] rfl (ok_load_s · sc9 (.tmp rfl) rfl (ldS_out hp6)) ?_
      try dsimp only [w0, w1, w2, w3]
      refine yf 25 [20, 24] rfl (ok_sbin · (.tmp rfl) (.tmp rfl) rfl) ?_
      refine x_rest rfl ?_
      refine hr_region_end ?_
      try dsimp only [w0, w1, w2, w3]
      rcases ifc h with ⟨hc7, h⟩ | ⟨hc7, h⟩
      · refine q_cond_t rfl (.tmp rfl) hc7 ?_
        refine q_seq rfl ?_
        refine q_region rfl rfl ?_
        refine qS 4 rfl (ok_assign · (.bool _)) ?_
        refine hr_region_end ?_
        try dsimp only [w0, w1, w2, w3]
        cases h
        exact q_ret rfl at_.at_ rfl (res1 rfl rfl) ⟨rfl, rfl⟩
      · refine q_cond_f rfl (.tmp rfl) (bfalse hc7) ?_
        refine q_skipc rfl ?_
        refine hr_inBlock ?_
        refine q_region rfl rfl ?_
        refine qS 15 rfl (ok_move · (.tmp rfl)) ?_
        refine qS 16 rfl (ok_ibin · (.tmp rfl) (.int _ _) rfl) ?_
        refine qS 5 rfl (ok_assign · (.tmp rfl)) ?_
        refine hr_region_end ?_
        try dsimp only [w0, w1, w2, w3]
        try dsimp only [w0, w1, w2, w3]
        exact ih h
    · refine q_cond_f rfl (.tmp rfl) (decide_eq_false hc2) ?_
      refine q_exit rfl rfl ?_
      refine q_seq rfl ?_
      refine q_region rfl rfl ?_
      refine qS 4 rfl (ok_assign · (.bool _)) ?_
      refine hr_region_end ?_
      try dsimp only [w0, w1, w2, w3]
      cases h
      exact q_ret rfl at_.at_ rfl (res1 rfl rfl) ⟨rfl, rfl⟩
def f (k : Nat) (x0 : Sl) (x1 : Sl) (S : HS) : Option ((Bool) × HS) :=
  (if (!decide ((Sl.len x0 : Int) = (Sl.len x1 : Int))) = true then
  some (false, S) else
  L0 k k x0 x1 0 S)
theorem snd {k : Nat} {x0 : Sl} {x1 : Sl} {S : HS}  {p : (Bool) × HS} (h : f k x0 x1 S = some p) : HCall Try.prog base W0 β0 18 [(Sl.hv x0), (Sl.hv x1)] S (fun v S1 => v = (.bool p.1) ∧ S1 = p.2) := by
  unfold f at h
  refine HCall.of_run at_.at_ body ?_
  show HRun Try.prog base W0 β0 18 none [.code c0] ⟨[(Sl.hv x0), (Sl.hv x1), τ, τ, τ, τ, τ, τ, τ, τ, τ, τ, τ, τ, τ, τ, τ, τ, τ, τ, τ, τ, τ, τ, τ, τ], []⟩ S _
  refine q_seq rfl ?_
  refine q_region rfl rfl ?_
  refine qS 4 rfl (ok_assign · (.bool _)) ?_
  refine hr_region_end ?_
  try dsimp only [w0, w1, w2, w3]
  refine q_seq rfl ?_
  refine q_seq rfl ?_
  refine q_region rfl rfl ?_
  refine qS 6 rfl (ok_move · (.tmp rfl)) ?_
  refine qS 7 rfl (ok_len_sl (q := Sl.a x0) (n := Sl.len x0) (z := Sl.cap x0) · rfl tu36 (.tmp rfl)) ?_
  refine qS 8 rfl (ok_move · (.tmp rfl)) ?_
  refine qS 9 rfl (ok_len_sl (q := Sl.a x1) (n := Sl.len x1) (z := Sl.cap x1) · rfl tu36 (.tmp rfl)) ?_
  try dsimp only [w0, w1, w2, w3]
  refine qS 10 rfl (ok_ibin · (.tmp rfl) (.tmp rfl) rfl) ?_
  refine hr_region_end ?_
  try dsimp only [w0, w1, w2, w3]
  rcases ifc h with ⟨hc1, h⟩ | ⟨hc1, h⟩
  · refine q_cond_t rfl (.tmp rfl) hc1 ?_
    refine q_seq rfl ?_
    refine q_region rfl rfl ?_
    refine qS 4 rfl (ok_assign · (.bool _)) ?_
    refine hr_region_end ?_
    try dsimp only [w0, w1, w2, w3]
    cases h
    exact q_ret rfl at_.at_ rfl (res1 rfl rfl) ⟨rfl, rfl⟩
  · refine q_cond_f rfl (.tmp rfl) (bfalse hc1) ?_
    refine q_skipc rfl ?_
    refine q_seq rfl ?_
    refine q_seq rfl ?_
    refine q_region rfl rfl ?_
    refine qS 5 rfl (ok_assign · (.int _ _)) ?_
    refine hr_region_end ?_
    try dsimp only [w0, w1, w2, w3]
    refine q_block rfl ?_
    refine q_loop rfl ?_
    try dsimp only [w0, w1, w2, w3]
    exact L0_snd  h
end
end rollcallref01_Texts
namespace rollcalllaw08_SendqPlays
theorem at_ : FnAt Try.prog 5 Try.f5 := ⟨Try.func5, by kernel_rfl⟩
noncomputable def d0 := (Try.f5.body).getD .skip
noncomputable def r1 := kR (kA d0)
noncomputable def r4 := kR (kA (kA (kB d0)))
noncomputable def r7 := kR (kA (kA (kB (kA (kB d0)))))
noncomputable def r12 := kR (kA (kA (kB (kB d0))))
noncomputable def r15 := kR (kA (kA (kB (kA (kB (kB d0))))))
noncomputable def d18 := kB (kB (kB d0))
noncomputable def r20 := kR (kA (kA d18))
noncomputable def d22 := kA (kB (kA d18))
noncomputable def r25 := kR (kA (kA (kA d22)))
noncomputable def r32 := kR (kA (kA (kA (kB (kA d22)))))
noncomputable def r35 := kR (kA (kA (kB (kA (kA (kB (kA d22)))))))
noncomputable def r38 := kR (kB (kB (kA d22)))
noncomputable def r40 := kR (kA (kB d18))
noncomputable def r43 := kR (kA (kA (kB (kB d18))))
noncomputable def r46 := kR (kA (kA (kB (kA (kB (kB d18))))))
noncomputable def d49 := kB (kB (kB d18))
noncomputable def r51 := kR (kA (kA d49))
noncomputable def r54 := kR (kA (kA (kB (kA d49))))
noncomputable def r58 := kR (kA (kB d49))
noncomputable def d60 := kA (kB (kB d49))
noncomputable def r61 := kR (kA d60)
noncomputable def d64 := kA (kA (kB d60))
noncomputable def r66 := kR (kA (kA d64))
noncomputable def d72 := kA (kA (kB d64))
noncomputable def r73 := kR (kA d72)
noncomputable def r76 := kR (kA (kA (kB d72)))
noncomputable def r78 := kR (kA (kB (kA (kB d72))))
noncomputable def r79 := kR (kB (kB (kA (kB d72))))
noncomputable def r81 := kR (kA (kB (kB d72)))
noncomputable def r83 := kR (kA (kB (kB (kB d72))))
noncomputable def r86 := kR (kA (kA (kB (kB (kB (kB d72))))))
noncomputable def r89 := kR (kB (kB d64))
noncomputable def r91 := kR (kA (kB (kB (kB d49))))
noncomputable def c90 : Code := .seq (.region 26 r91 false) .ret
noncomputable def c89 : Code := .region 18 r89 false
noncomputable def c84 : Code := .cond (.tmp 139) (.seq (.region 25 r86 false) .ret) .skip
noncomputable def c80 : Code := .seq (.region 23 r81 false) (.seq (.region 24 r83 true) c84)
noncomputable def c64 : Code := .seq (.seq (.region 17 r66 false) (.cond (.tmp 56) .skip (.exit 2))) (.seq (.block 3 (.seq (.region 19 r73 false) (.seq (.seq (.region 20 r76 false) (.cond (.tmp 64) (.region 21 r78 true) (.region 22 r79 true))) c80))) c89)
noncomputable def c49 : Code := .seq (.seq (.region 13 r51 false) (.cond (.tmp 49) (.seq (.region 14 r54 false) .ret) .skip)) (.seq (.region 15 r58 false) (.seq (.seq (.region 16 r61 false) (.block 2 (.loop c64))) c90))
noncomputable def c47 : Code := .ret
noncomputable def c44 : Code := .cond (.tmp 41) (.seq (.region 12 r46 false) c47) .skip
noncomputable def c39 : Code := .seq (.region 10 r40 false) (.seq (.seq (.region 11 r43 false) c44) c49)
noncomputable def c23 : Code := .seq (.seq (.region 6 r25 false) (.cond (.tmp 21) .skip (.exit 0))) (.seq (.block 1 (.seq (.region 8 r32 false) (.cond (.tmp 30) (.seq (.region 9 r35 false) .ret) .skip))) (.region 7 r38 false))
noncomputable def c0 : Code := .seq (.region 0 r1 false) (.seq (.seq (.region 1 r4 false) (.cond (.tmp 14) (.seq (.region 2 r7 false) .ret) .skip)) (.seq (.seq (.region 3 r12 false) (.cond (.tmp 17) (.seq (.region 4 r15 false) .ret) .skip)) (.seq (.seq (.region 5 r20 false) (.block 0 (.loop c23))) c39)))
theorem body : Try.f5.body = some c0 := by kernel_rfl
section
variable {base : Nat} {W0 : World} {β0 : Bt}
def J2 (D : Dp) (H : Hd) (k : Nat) (y47 : Bool) (S : HS) : Option ((Bool) × HS) :=
  some (y47, S)
theorem J2_snd {D : Dp} {H : Hd} {k : Nat} (hD : DSound Try.prog base W0 D) (hH : HSound Try.prog base W0 β0 H)  {y47 : Bool} {S : HS} {p : (Bool) × HS} {g0 g1 g2 g3 g4 g5 g6 g7 g8 g9 g10 g11 g12 g13 g14 g15 g16 g17 g18 g19 g20 g21 g22 g23 g24 g25 g26 g27 g28 g29 g30 g31 g32 g33 g34 g35 g36 g37 g38 g39 g40 g41 g42 g43 g44 g45 g46 g48 g49 g50 g51 g52 g53 g54 g55 g56 g57 g58 g59 g60 g61 g62 g63 g64 g65 g66 g67 g68 g69 g70 g71 g72 g73 g74 g75 g76 g77 g78 g79 g80 g81 g82 g83 g84 g85 g86 g87 g88 g89 g90 g91 g92 g93 g94 g95 g96 g97 g98 g99 g100 g101 g102 g103 g104 g105 g106 g107 g108 g109 g110 g111 g112 g113 g114 g115 g116 g117 g118 g119 g120 g121 g122 g123 g124 g125 g126 g127 g128 g129 g130 g131 g132 g133 g134 g135 g136 g137 g138 g139 : HV} (h : J2 D H k y47 S = some p) : HRun Try.prog base W0 β0 5 none [.inRegion r46 [6], .code c47, .code c49] ⟨[g0, g1, g2, g3, g4, g5, g6, g7, g8, g9, g10, g11, g12, g13, g14, g15, g16, g17, g18, g19, g20, g21, g22, g23, g24, g25, g26, g27, g28, g29, g30, g31, g32, g33, g34, g35, g36, g37, g38, g39, g40, g41, g42, g43, g44, g45, g46, (.bool y47), g48, g49, g50, g51, g52, g53, g54, g55, g56, g57, g58, g59, g60, g61, g62, g63, g64, g65, g66, g67, g68, g69, g70, g71, g72, g73, g74, g75, g76, g77, g78, g79, g80, g81, g82, g83, g84, g85, g86, g87, g88, g89, g90, g91, g92, g93, g94, g95, g96, g97, g98, g99, g100, g101, g102, g103, g104, g105, g106, g107, g108, g109, g110, g111, g112, g113, g114, g115, g116, g117, g118, g119, g120, g121, g122, g123, g124, g125, g126, g127, g128, g129, g130, g131, g132, g133, g134, g135, g136, g137, g138, g139], []⟩ S (fun v S1 => v = (.bool p.1) ∧ S1 = p.2) := by
  unfold J2 at h
  refine qS 4 rfl (ok_assign · (.tmp rfl)) ?_
  refine hr_region_end ?_
  try dsimp only [w0, w1, w2, w3]
  cases h
  exact q_ret rfl at_.at_ rfl (res1 rfl rfl) ⟨rfl, rfl⟩
def J5 (D : Dp) (H : Hd) (k : Nat) (rec0 : Sl → (Option HA) → (Option HA) → Int → HS → Option ((Bool) × HS)) (y1 : Sl) (y6 : (Option HA)) (y8 : (Option HA)) (y9 : Int) (y139 : Bool) (S : HS) : Option ((Bool) × HS) :=
  (if y139 = true then
  some (false, S) else
  rec0 y1 y6 y8 (w64 (y9 + 1)) S)
theorem J5_snd {D : Dp} {H : Hd} {k : Nat} {rec0 : Sl → (Option HA) → (Option HA) → Int → HS → Option ((Bool) × HS)} (hD : DSound Try.prog base W0 D) (hH : HSound Try.prog base W0 β0 H) (hrec0 : ∀ ⦃y1 : Sl⦄ ⦃y6 : (Option HA)⦄ ⦃y8 : (Option HA)⦄ ⦃y9 : Int⦄ ⦃S : HS⦄ ⦃p : (Bool) × HS⦄ ⦃g0 g2 g3 g4 g5 g7 g10 g11 g12 g13 g14 g15 g16 g17 g18 g19 g20 g21 g22 g23 g24 g25 g26 g27 g28 g29 g30 g31 g32 g33 g34 g35 g36 g37 g38 g39 g40 g41 g42 g43 g44 g45 g46 g47 g48 g49 g50 g51 g52 g53 g54 g55 g56 g57 g58 g59 g60 g61 g62 g63 g64 g65 g66 g67 g68 g69 g70 g71 g72 g73 g74 g75 g76 g77 g78 g79 g80 g81 g82 g83 g84 g85 g86 g87 g88 g89 g90 g91 g92 g93 g94 g95 g96 g97 g98 g99 g100 g101 g102 g103 g104 g105 g106 g107 g108 g109 g110 g111 g112 g113 g114 g115 g116 g117 g118 g119 g120 g121 g122 g123 g124 g125 g126 g127 g128 g129 g130 g131 g132 g133 g134 g135 g136 g137 g138 g139 : HV⦄, rec0 y1 y6 y8 y9 S = some p → HRun Try.prog base W0 β0 5 none [.inLoop c64, .inBlock 2, .code c90] ⟨[g0, (Sl.hv y1), g2, g3, g4, g5, (.ptr y6), g7, (.ptr y8), (.int .i64 y9), g10, g11, g12, g13, g14, g15, g16, g17, g18, g19, g20, g21, g22, g23, g24, g25, g26, g27, g28, g29, g30, g31, g32, g33, g34, g35, g36, g37, g38, g39, g40, g41, g42, g43, g44, g45, g46, g47, g48, g49, g50, g51, g52, g53, g54, g55, g56, g57, g58, g59, g60, g61, g62, g63, g64, g65, g66, g67, g68, g69, g70, g71, g72, g73, g74, g75, g76, g77, g78, g79, g80, g81, g82, g83, g84, g85, g86, g87, g88, g89, g90, g91, g92, g93, g94, g95, g96, g97, g98, g99, g100, g101, g102, g103, g104, g105, g106, g107, g108, g109, g110, g111, g112, g113, g114, g115, g116, g117, g118, g119, g120, g121, g122, g123, g124, g125, g126, g127, g128, g129, g130, g131, g132, g133, g134, g135, g136, g137, g138, g139], []⟩ S (fun v S1 => v = (.bool p.1) ∧ S1 = p.2)) {y1 : Sl} {y6 : (Option HA)} {y8 : (Option HA)} {y9 : Int} {y139 : Bool} {S : HS} {p : (Bool) × HS} {g0 g2 g3 g4 g5 g7 g10 g11 g12 g13 g14 g15 g16 g17 g18 g19 g20 g21 g22 g23 g24 g25 g26 g27 g28 g29 g30 g31 g32 g33 g34 g35 g36 g37 g38 g39 g40 g41 g42 g43 g44 g45 g46 g47 g48 g49 g50 g51 g52 g53 g54 g55 g56 g57 g58 g59 g60 g61 g62 g63 g64 g65 g66 g67 g68 g69 g70 g71 g72 g73 g74 g75 g76 g77 g78 g79 g80 g81 g82 g83 g84 g85 g86 g87 g88 g89 g90 g91 g92 g93 g94 g95 g96 g97 g98 g99 g100 g101 g102 g103 g104 g105 g106 g107 g108 g109 g110 g111 g112 g113 g114 g115 g116 g117 g118 g119 g120 g121 g122 g123 g124 g125 g126 g127 g128 g129 g130 g131 g132 g133 g134 g135 g136 g137 g138 : HV} (h : J5 D H k rec0 y1 y6 y8 y9 y139 S = some p) : HRun Try.prog base W0 β0 5 none [.code c84, .inBlock 3, .code c89, .inLoop c64, .inBlock 2, .code c90] ⟨[g0, (Sl.hv y1), g2, g3, g4, g5, (.ptr y6), g7, (.ptr y8), (.int .i64 y9), g10, g11, g12, g13, g14, g15, g16, g17, g18, g19, g20, g21, g22, g23, g24, g25, g26, g27, g28, g29, g30, g31, g32, g33, g34, g35, g36, g37, g38, g39, g40, g41, g42, g43, g44, g45, g46, g47, g48, g49, g50, g51, g52, g53, g54, g55, g56, g57, g58, g59, g60, g61, g62, g63, g64, g65, g66, g67, g68, g69, g70, g71, g72, g73, g74, g75, g76, g77, g78, g79, g80, g81, g82, g83, g84, g85, g86, g87, g88, g89, g90, g91, g92, g93, g94, g95, g96, g97, g98, g99, g100, g101, g102, g103, g104, g105, g106, g107, g108, g109, g110, g111, g112, g113, g114, g115, g116, g117, g118, g119, g120, g121, g122, g123, g124, g125, g126, g127, g128, g129, g130, g131, g132, g133, g134, g135, g136, g137, g138, (.bool y139)], []⟩ S (fun v S1 => v = (.bool p.1) ∧ S1 = p.2) := by
  unfold J5 at h
  rcases ifc h with ⟨hc33, h⟩ | ⟨hc33, h⟩
  · refine q_cond_t rfl (.tmp rfl) hc33 ?_
    refine q_seq rfl ?_
    refine q_region rfl rfl ?_
    refine qS 4 rfl (ok_assign · (.bool _)) ?_
    refine hr_region_end ?_
    try dsimp only [w0, w1, w2, w3]
    cases h
    exact q_ret rfl at_.at_ rfl (res1 rfl rfl) ⟨rfl, rfl⟩
  · refine q_cond_f rfl (.tmp rfl) (bfalse hc33) ?_
    refine q_skipc rfl ?_
    refine hr_inBlock ?_
    refine q_region rfl rfl ?_
    refine qS 57 rfl (ok_move · (.tmp rfl)) ?_
    refine qS 58 rfl (ok_ibin · (.tmp rfl) (.int _ _) rfl) ?_
    refine qS 9 rfl (ok_assign · (.tmp rfl)) ?_
    refine hr_region_end ?_
    try dsimp only [w0, w1, w2, w3]
    try dsimp only [w0, w1, w2, w3]
    exact hrec0 h
def J4 (D : Dp) (H : Hd) (k : Nat) (rec0 : Sl → (Option HA) → (Option HA) → Int → HS → Option ((Bool) × HS)) (y1 : Sl) (y6 : (Option HA)) (y8 : (Option HA)) (y9 : Int) (y10 : Bool) (S : HS) : Option ((Bool) × HS) :=
  (Option.bind (rollcalllaw08_lines.f D H y6 50 S) fun p31 =>
  (if (!y10) = true then
  J5 D H k rec0 y1 y6 y8 y9 true p31.2 else
  (if (!p31.1.2) = true then
  J5 D H k rec0 y1 y6 y8 y9 true p31.2 else
  (Option.bind (sendq_Queue_Len.f y6 p31.2) fun p35 =>
  (Option.bind (rollcallref08_Queue_Waits.f y8 p35.2) fun p36 =>
  (if (!decide (p35.1 = (List.length p36.1 : Int))) = true then
  J5 D H k rec0 y1 y6 y8 y9 true p36.2 else
  (Option.bind (sendq_Queue_Sent.f y6 p36.2) fun p38 =>
  (Option.bind (y8) fun p39 =>
  (Option.bind (HS.ldI p38.2 .i64 (HA.fld p39 3)) fun p40 =>
  (Option.bind (HS.ldI p36.2 .i64 (HA.fld p39 3)) fun p41 =>
  (if p41 = p40 then
  (if (!decide (p38.1 = p40)) = true then
  J5 D H k rec0 y1 y6 y8 y9 true p38.2 else
  (Option.bind (sendq_Queue_Over.f y6 p38.2) fun p44 =>
  (Option.bind (y8) fun p45 =>
  (Option.bind (HS.ldB p44.2 (HA.fld p45 4)) fun p46 =>
  (Option.bind (HS.ldB p38.2 (HA.fld p45 4)) fun p47 =>
  (if p47 = p46 then
  (if (!(p44.1 == p46)) = true then
  J5 D H k rec0 y1 y6 y8 y9 true p44.2 else
  (Option.bind (rollcallref08_Queue_Lines.f k y8 p44.2) fun p50 =>
  (Option.bind (rollcallref01_Texts.f k p31.1.1 p50.1 p50.2) fun p51 =>
  J5 D H k rec0 y1 y6 y8 y9 (!p51.1) p51.2))) else none)))))) else none)))))))))))
theorem J4_snd {D : Dp} {H : Hd} {k : Nat} {rec0 : Sl → (Option HA) → (Option HA) → Int → HS → Option ((Bool) × HS)} (hD : DSound Try.prog base W0 D) (hH : HSound Try.prog base W0 β0 H) (hrec0 : ∀ ⦃y1 : Sl⦄ ⦃y6 : (Option HA)⦄ ⦃y8 : (Option HA)⦄ ⦃y9 : Int⦄ ⦃S : HS⦄ ⦃p : (Bool) × HS⦄ ⦃g0 g2 g3 g4 g5 g7 g10 g11 g12 g13 g14 g15 g16 g17 g18 g19 g20 g21 g22 g23 g24 g25 g26 g27 g28 g29 g30 g31 g32 g33 g34 g35 g36 g37 g38 g39 g40 g41 g42 g43 g44 g45 g46 g47 g48 g49 g50 g51 g52 g53 g54 g55 g56 g57 g58 g59 g60 g61 g62 g63 g64 g65 g66 g67 g68 g69 g70 g71 g72 g73 g74 g75 g76 g77 g78 g79 g80 g81 g82 g83 g84 g85 g86 g87 g88 g89 g90 g91 g92 g93 g94 g95 g96 g97 g98 g99 g100 g101 g102 g103 g104 g105 g106 g107 g108 g109 g110 g111 g112 g113 g114 g115 g116 g117 g118 g119 g120 g121 g122 g123 g124 g125 g126 g127 g128 g129 g130 g131 g132 g133 g134 g135 g136 g137 g138 g139 : HV⦄, rec0 y1 y6 y8 y9 S = some p → HRun Try.prog base W0 β0 5 none [.inLoop c64, .inBlock 2, .code c90] ⟨[g0, (Sl.hv y1), g2, g3, g4, g5, (.ptr y6), g7, (.ptr y8), (.int .i64 y9), g10, g11, g12, g13, g14, g15, g16, g17, g18, g19, g20, g21, g22, g23, g24, g25, g26, g27, g28, g29, g30, g31, g32, g33, g34, g35, g36, g37, g38, g39, g40, g41, g42, g43, g44, g45, g46, g47, g48, g49, g50, g51, g52, g53, g54, g55, g56, g57, g58, g59, g60, g61, g62, g63, g64, g65, g66, g67, g68, g69, g70, g71, g72, g73, g74, g75, g76, g77, g78, g79, g80, g81, g82, g83, g84, g85, g86, g87, g88, g89, g90, g91, g92, g93, g94, g95, g96, g97, g98, g99, g100, g101, g102, g103, g104, g105, g106, g107, g108, g109, g110, g111, g112, g113, g114, g115, g116, g117, g118, g119, g120, g121, g122, g123, g124, g125, g126, g127, g128, g129, g130, g131, g132, g133, g134, g135, g136, g137, g138, g139], []⟩ S (fun v S1 => v = (.bool p.1) ∧ S1 = p.2)) {y1 : Sl} {y6 : (Option HA)} {y8 : (Option HA)} {y9 : Int} {y10 : Bool} {S : HS} {p : (Bool) × HS} {g0 g2 g3 g4 g5 g7 g11 g12 g13 g14 g15 g16 g17 g18 g19 g20 g21 g22 g23 g24 g25 g26 g27 g28 g29 g30 g31 g32 g33 g34 g35 g36 g37 g38 g39 g40 g41 g42 g43 g44 g45 g46 g47 g48 g49 g50 g51 g52 g53 g54 g55 g56 g57 g58 g59 g60 g61 g62 g63 g64 g65 g66 g67 g68 g69 g70 g71 g72 g73 g74 g75 g76 g77 g78 g79 g80 g81 g82 g83 g84 g85 g86 g87 g88 g89 g90 g91 g92 g93 g94 g95 g96 g97 g98 g99 g100 g101 g102 g103 g104 g105 g106 g107 g108 g109 g110 g111 g112 g113 g114 g115 g116 g117 g118 g119 g120 g121 g122 g123 g124 g125 g126 g127 g128 g129 g130 g131 g132 g133 g134 g135 g136 g137 g138 g139 : HV} (h : J4 D H k rec0 y1 y6 y8 y9 y10 S = some p) : HRun Try.prog base W0 β0 5 none [.code c80, .inBlock 3, .code c89, .inLoop c64, .inBlock 2, .code c90] ⟨[g0, (Sl.hv y1), g2, g3, g4, g5, (.ptr y6), g7, (.ptr y8), (.int .i64 y9), (.bool y10), g11, g12, g13, g14, g15, g16, g17, g18, g19, g20, g21, g22, g23, g24, g25, g26, g27, g28, g29, g30, g31, g32, g33, g34, g35, g36, g37, g38, g39, g40, g41, g42, g43, g44, g45, g46, g47, g48, g49, g50, g51, g52, g53, g54, g55, g56, g57, g58, g59, g60, g61, g62, g63, g64, g65, g66, g67, g68, g69, g70, g71, g72, g73, g74, g75, g76, g77, g78, g79, g80, g81, g82, g83, g84, g85, g86, g87, g88, g89, g90, g91, g92, g93, g94, g95, g96, g97, g98, g99, g100, g101, g102, g103, g104, g105, g106, g107, g108, g109, g110, g111, g112, g113, g114, g115, g116, g117, g118, g119, g120, g121, g122, g123, g124, g125, g126, g127, g128, g129, g130, g131, g132, g133, g134, g135, g136, g137, g138, g139], []⟩ S (fun v S1 => v = (.bool p.1) ∧ S1 = p.2) := by
  unfold J4 at h
  refine q_seq rfl ?_
  refine q_region rfl rfl ?_
  refine qS 97 rfl (ok_move · (.tmp rfl)) ?_
  obtain ⟨p31, hp31, h⟩ := bindo h
  refine q_call (dst := some 98) rfl (.func _) (.cons (.tmp rfl) (.cons (.int _ _) Evs.nil)) (HInv.static rollcalllaw08_lines.at_ rollcalllaw08_lines.body (rollcalllaw08_lines.snd hD hH hp31)) ?_
  rintro _ _ ⟨rfl, rfl⟩
  refine qS 96 rfl (ok_move · (.tmp rfl)) ?_
  refine qS 99 rfl (ok_extract · (.tmp rfl) rfl) ?_
  try dsimp only [w0, w1, w2, w3]
  refine qS 100 rfl (ok_extract · (.tmp rfl) rfl) ?_
  refine qS 11 rfl (ok_assign · (.tmp rfl)) ?_
  refine qS 12 rfl (ok_assign · (.tmp rfl)) ?_
  refine hr_region_end ?_
  try dsimp only [w0, w1, w2, w3]
  refine q_seq rfl ?_
  refine x_start (cls := [0, 0, 0, 0, 0, 0, 0, 0, 2, 0, 2, 0, 0, 0, 0, 0, 2, 0, 0, 0, 3, 0, 0, 0, 0, 2, 0, 0, 0, 3, 0, 0, 0, 0, 0, 2, 2, 0, 0]) (rk := [0, 1, 2, 3, 4, 5, 6, 7, 8, 9, 10, 11, 12, 13, 14, 15, 16, 17, 18, 19, 20, 21, 22, 23, 24, 25, 26, 27, 28, 29, 30, 31, 32, 33, 34, 35, 36, 37, 38]) rfl (by kernel_rfl) ?_
  refine xf 101 [10] rfl (ok_move · (.tmp rfl)) ?_
  refine xf 102 [101] rfl (ok_not · (.tmp rfl)) ?_
  refine xf 103 [102] rfl (ok_move · (.tmp rfl)) ?_
  rcases ifc h with ⟨hc32, h⟩ | ⟨hc32, h⟩
  · refine xfs 104 103 [12, 103] rfl hc32 ?_
    try dsimp only [w0, w1, w2, w3]
    refine xfs 105 103 [104, 103] rfl hc32 ?_
    refine xf 106 [103, 105] rfl (ok_pick_tt · (.tmp rfl) hc32 (.bool _)) ?_
    refine xf 107 [106] rfl (ok_move · (.tmp rfl)) ?_
    refine xfs 108 107 [6, 107] rfl rfl ?_
    try dsimp only [w0, w1, w2, w3]
    refine zes 109 107 [108, 107] rfl rfl trivial ?_
    refine xfs 110 107 [8, 107] rfl rfl ?_
    refine zes 111 107 [110, 107] rfl rfl trivial ?_
    refine xfs 112 107 [111, 107] rfl rfl ?_
    try dsimp only [w0, w1, w2, w3]
    refine xfs 113 107 [109, 112, 107] rfl rfl ?_
    refine xf 114 [107, 113] rfl (ok_pick_tt · (.tmp rfl) rfl (.bool _)) ?_
    refine xf 115 [114] rfl (ok_move · (.tmp rfl)) ?_
    refine xfs 116 115 [6, 115] rfl rfl ?_
    try dsimp only [w0, w1, w2, w3]
    refine zes 117 115 [116, 115] rfl rfl trivial ?_
    refine xfs 118 115 [8, 115] rfl rfl ?_
    refine xfs 119 115 [118, 115] rfl rfl ?_
    refine xfs 120 115 [119, 115] rfl rfl ?_
    try dsimp only [w0, w1, w2, w3]
    refine x_late (r_skip (dst := some 121) (t := 115) (ts := [120, 115]) rfl (by kernel_rfl) rfl rfl rfl) rfl ⟨.inr (l_skip (dst := some 121) (t := 115) (ts := [120, 115]) rfl (by kernel_rfl) rfl rfl rfl), .inl (by kernel_rfl), .inl (by kernel_rfl), trivial⟩ ?_
    refine xfs 122 115 [117, 121, 115] rfl rfl ?_
    refine xf 123 [115, 122] rfl (ok_pick_tt · (.tmp rfl) rfl (.bool _)) ?_
    refine xf 124 [123] rfl (ok_move · (.tmp rfl)) ?_
    try dsimp only [w0, w1, w2, w3]
    refine xfs 125 124 [6, 124] rfl rfl ?_
    refine zes 126 124 [125, 124] rfl rfl ⟨.inl (by kernel_rfl), trivial⟩ ?_
    refine xfs 127 124 [8, 124] rfl rfl ?_
    refine xfs 128 124 [127, 124] rfl rfl ?_
    try dsimp only [w0, w1, w2, w3]
    refine xfs 129 124 [128, 124] rfl rfl ?_
    refine x_late (r_skip (dst := some 130) (t := 124) (ts := [129, 124]) rfl (by kernel_rfl) rfl rfl rfl) rfl ⟨.inr (l_skip (dst := some 130) (t := 124) (ts := [129, 124]) rfl (by kernel_rfl) rfl rfl rfl), .inl (by kernel_rfl), .inl (by kernel_rfl), .inl (by kernel_rfl), trivial⟩ ?_
    refine xfs 131 124 [126, 130, 124] rfl rfl ?_
    refine xf 132 [124, 131] rfl (ok_pick_tt · (.tmp rfl) rfl (.bool _)) ?_
    try dsimp only [w0, w1, w2, w3]
    refine xf 133 [132] rfl (ok_move · (.tmp rfl)) ?_
    refine xfs 134 133 [11, 133] rfl rfl ?_
    refine xfs 135 133 [8, 133] rfl rfl ?_
    refine zes 136 133 [135, 133] rfl rfl ⟨.inl (by kernel_rfl), .inl (by kernel_rfl), trivial⟩ ?_
    try dsimp only [w0, w1, w2, w3]
    refine zes 137 133 [134, 136, 133] rfl rfl ⟨.inl (by kernel_rfl), .inl (by kernel_rfl), trivial⟩ ?_
    refine xfs 138 133 [137, 133] rfl rfl ?_
    refine xf 139 [133, 138] rfl (ok_pick_tt · (.tmp rfl) rfl (.bool _)) ?_
    refine x_rest rfl ?_
    refine hr_region_end ?_
    try dsimp only [w0, w1, w2, w3]
    try dsimp only [w0, w1, w2, w3]
    exact J5_snd hD hH hrec0 h
  · refine xfg 104 103 [12, 103] rfl (bfalse hc32) (ok_move · (.tmp rfl)) ?_
    try dsimp only [w0, w1, w2, w3]
    refine xfg 105 103 [104, 103] rfl (bfalse hc32) (ok_not · (.tmp rfl)) ?_
    refine xf 106 [103, 105] rfl (ok_pick_ff · (.tmp rfl) (bfalse hc32) (.tmp rfl)) ?_
    refine xf 107 [106] rfl (ok_move · (.tmp rfl)) ?_
    rcases ifc h with ⟨hc34, h⟩ | ⟨hc34, h⟩
    · refine xfs 108 107 [6, 107] rfl hc34 ?_
      try dsimp only [w0, w1, w2, w3]
      refine zes 109 107 [108, 107] rfl hc34 trivial ?_
      refine xfs 110 107 [8, 107] rfl hc34 ?_
      refine zes 111 107 [110, 107] rfl hc34 trivial ?_
      refine xfs 112 107 [111, 107] rfl hc34 ?_
      try dsimp only [w0, w1, w2, w3]
      refine xfs 113 107 [109, 112, 107] rfl hc34 ?_
      refine xf 114 [107, 113] rfl (ok_pick_tt · (.tmp rfl) hc34 (.bool _)) ?_
      refine xf 115 [114] rfl (ok_move · (.tmp rfl)) ?_
      refine xfs 116 115 [6, 115] rfl rfl ?_
      try dsimp only [w0, w1, w2, w3]
      refine zes 117 115 [116, 115] rfl rfl trivial ?_
      refine xfs 118 115 [8, 115] rfl rfl ?_
      refine xfs 119 115 [118, 115] rfl rfl ?_
      refine xfs 120 115 [119, 115] rfl rfl ?_
      try dsimp only [w0, w1, w2, w3]
      refine x_late (r_skip (dst := some 121) (t := 115) (ts := [120, 115]) rfl (by kernel_rfl) rfl rfl rfl) rfl ⟨.inr (l_skip (dst := some 121) (t := 115) (ts := [120, 115]) rfl (by kernel_rfl) rfl rfl rfl), .inl (by kernel_rfl), .inl (by kernel_rfl), trivial⟩ ?_
      refine xfs 122 115 [117, 121, 115] rfl rfl ?_
      refine xf 123 [115, 122] rfl (ok_pick_tt · (.tmp rfl) rfl (.bool _)) ?_
      refine xf 124 [123] rfl (ok_move · (.tmp rfl)) ?_
      try dsimp only [w0, w1, w2, w3]
      refine xfs 125 124 [6, 124] rfl rfl ?_
      refine zes 126 124 [125, 124] rfl rfl ⟨.inl (by kernel_rfl), trivial⟩ ?_
      refine xfs 127 124 [8, 124] rfl rfl ?_
      refine xfs 128 124 [127, 124] rfl rfl ?_
      try dsimp only [w0, w1, w2, w3]
      refine xfs 129 124 [128, 124] rfl rfl ?_
      refine x_late (r_skip (dst := some 130) (t := 124) (ts := [129, 124]) rfl (by kernel_rfl) rfl rfl rfl) rfl ⟨.inr (l_skip (dst := some 130) (t := 124) (ts := [129, 124]) rfl (by kernel_rfl) rfl rfl rfl), .inl (by kernel_rfl), .inl (by kernel_rfl), .inl (by kernel_rfl), trivial⟩ ?_
      refine xfs 131 124 [126, 130, 124] rfl rfl ?_
      refine xf 132 [124, 131] rfl (ok_pick_tt · (.tmp rfl) rfl (.bool _)) ?_
      try dsimp only [w0, w1, w2, w3]
      refine xf 133 [132] rfl (ok_move · (.tmp rfl)) ?_
      refine xfs 134 133 [11, 133] rfl rfl ?_
      refine xfs 135 133 [8, 133] rfl rfl ?_
      refine zes 136 133 [135, 133] rfl rfl ⟨.inl (by kernel_rfl), .inl (by kernel_rfl), trivial⟩ ?_
      try dsimp only [w0, w1, w2, w3]
      refine zes 137 133 [134, 136, 133] rfl rfl ⟨.inl (by kernel_rfl), .inl (by kernel_rfl), trivial⟩ ?_
      refine xfs 138 133 [137, 133] rfl rfl ?_
      refine xf 139 [133, 138] rfl (ok_pick_tt · (.tmp rfl) rfl (.bool _)) ?_
      refine x_rest rfl ?_
      refine hr_region_end ?_
      try dsimp only [w0, w1, w2, w3]
      try dsimp only [w0, w1, w2, w3]
      exact J5_snd hD hH hrec0 h
    · refine xfg 108 107 [6, 107] rfl (bfalse hc34) (ok_move · (.tmp rfl)) ?_
      try dsimp only [w0, w1, w2, w3]
      obtain ⟨p35, hp35, h⟩ := bindo h
      refine x_goE (e_call_g (dst := some 109) (t := 107) (ts := [108, 107]) rfl (by kernel_rfl) rfl rfl (bfalse hc34) (.func _) (.cons (.tmp rfl) Evs.nil) (HInv.static sendq_Queue_Len.at_ sendq_Queue_Len.body (sendq_Queue_Len.snd  hp35))) rfl trivial ?_
      refine xfg 110 107 [8, 107] rfl (bfalse hc34) (ok_move · (.tmp rfl)) ?_
      obtain ⟨p36, hp36, h⟩ := bindo h
      refine x_goE (e_call_g (dst := some 111) (t := 107) (ts := [110, 107]) rfl (by kernel_rfl) rfl rfl (bfalse hc34) (.func _) (.cons (.tmp rfl) Evs.nil) (HInv.static rollcallref08_Queue_Waits.at_ rollcallref08_Queue_Waits.body (rollcallref08_Queue_Waits.snd  hp36))) rfl trivial ?_
      refine xfg 112 107 [111, 107] rfl (bfalse hc34) (ok_len_str · rfl tu9 (.tmp rfl)) ?_
      try dsimp only [w0, w1, w2, w3]
      refine xfg 113 107 [109, 112, 107] rfl (bfalse hc34) (ok_ibin · (.tmp rfl) (.tmp rfl) rfl) ?_
      refine xf 114 [107, 113] rfl (ok_pick_ff · (.tmp rfl) (bfalse hc34) (.tmp rfl)) ?_
      refine xf 115 [114] rfl (ok_move · (.tmp rfl)) ?_
      rcases ifc h with ⟨hc37, h⟩ | ⟨hc37, h⟩
      · refine xfs 116 115 [6, 115] rfl hc37 ?_
        try dsimp only [w0, w1, w2, w3]
        refine zes 117 115 [116, 115] rfl hc37 trivial ?_
        refine xfs 118 115 [8, 115] rfl hc37 ?_
        refine xfs 119 115 [118, 115] rfl hc37 ?_
        refine xfs 120 115 [119, 115] rfl hc37 ?_
        try dsimp only [w0, w1, w2, w3]
        refine x_late (r_skip (dst := some 121) (t := 115) (ts := [120, 115]) rfl (by kernel_rfl) rfl rfl hc37) rfl ⟨.inr (l_skip (dst := some 121) (t := 115) (ts := [120, 115]) rfl (by kernel_rfl) rfl rfl hc37), .inl (by kernel_rfl), .inl (by kernel_rfl), trivial⟩ ?_
        refine xfs 122 115 [117, 121, 115] rfl hc37 ?_
        refine xf 123 [115, 122] rfl (ok_pick_tt · (.tmp rfl) hc37 (.bool _)) ?_
        refine xf 124 [123] rfl (ok_move · (.tmp rfl)) ?_
        try dsimp only [w0, w1, w2, w3]
        refine xfs 125 124 [6, 124] rfl rfl ?_
        refine zes 126 124 [125, 124] rfl rfl ⟨.inl (by kernel_rfl), trivial⟩ ?_
        refine xfs 127 124 [8, 124] rfl rfl ?_
        refine xfs 128 124 [127, 124] rfl rfl ?_
        try dsimp only [w0, w1, w2, w3]
        refine xfs 129 124 [128, 124] rfl rfl ?_
        refine x_late (r_skip (dst := some 130) (t := 124) (ts := [129, 124]) rfl (by kernel_rfl) rfl rfl rfl) rfl ⟨.inr (l_skip (dst := some 130) (t := 124) (ts := [129, 124]) rfl (by kernel_rfl) rfl rfl rfl), .inl (by kernel_rfl), .inl (by kernel_rfl), .inl (by kernel_rfl), trivial⟩ ?_
        refine xfs 131 124 [126, 130, 124] rfl rfl ?_
        refine xf 132 [124, 131] rfl (ok_pick_tt · (.tmp rfl) rfl (.bool _)) ?_
        try dsimp only [w0, w1, w2, w3]
        refine xf 133 [132] rfl (ok_move · (.tmp rfl)) ?_
        refine xfs 134 133 [11, 133] rfl rfl ?_
        refine xfs 135 133 [8, 133] rfl rfl ?_
        refine zes 136 133 [135, 133] rfl rfl ⟨.inl (by kernel_rfl), .inl (by kernel_rfl), trivial⟩ ?_
        try dsimp only [w0, w1, w2, w3]
        refine zes 137 133 [134, 136, 133] rfl rfl ⟨.inl (by kernel_rfl), .inl (by kernel_rfl), trivial⟩ ?_
        refine xfs 138 133 [137, 133] rfl rfl ?_
        refine xf 139 [133, 138] rfl (ok_pick_tt · (.tmp rfl) rfl (.bool _)) ?_
        refine x_rest rfl ?_
        refine hr_region_end ?_
        try dsimp only [w0, w1, w2, w3]
        try dsimp only [w0, w1, w2, w3]
        exact J5_snd hD hH hrec0 h
      · refine xfg 116 115 [6, 115] rfl (bfalse hc37) (ok_move · (.tmp rfl)) ?_
        try dsimp only [w0, w1, w2, w3]
        obtain ⟨p38, hp38, h⟩ := bindo h
        refine x_goE (e_call_g (dst := some 117) (t := 115) (ts := [116, 115]) rfl (by kernel_rfl) rfl rfl (bfalse hc37) (.func _) (.cons (.tmp rfl) Evs.nil) (HInv.static sendq_Queue_Sent.at_ sendq_Queue_Sent.body (sendq_Queue_Sent.snd  hp38))) rfl trivial ?_
        refine xfg 118 115 [8, 115] rfl (bfalse hc37) (ok_move · (.tmp rfl)) ?_
        obtain ⟨p39, hp39, h⟩ := bindo h
        refine xfg 119 115 [118, 115] rfl (bfalse hc37) (ok_nilCheck_p · (.tmp rfl) hp39) ?_
        refine xfg 120 115 [119, 115] rfl (bfalse hc37) (ok_fieldAddr_s · fi40_3 (by decide) (.tmp rfl) rfl) ?_
        try dsimp only [w0, w1, w2, w3]
        obtain ⟨p40, hp40, h⟩ := bindo h
        obtain ⟨p41, hp41, h⟩ := bindo h
        obtain ⟨hg42, h⟩ := gd h
        refine x_late (r_op_g (dst := some 121) (t := 115) (ts := [120, 115]) rfl (by intro _ _ h; cases h) (by kernel_rfl) rfl rfl (bfalse hc37) (fun _ ho => ok_load_s ho sc3 (.tmp rfl) rfl (ldI_out hp40))) rfl ⟨.inr (l_op_g (dst := some 121) (t := 115) (ts := [120, 115]) rfl (by intro _ _ h; cases h) (by kernel_rfl) rfl rfl (bfalse hc37) (fun _ ho => ok_load_s ho sc3 (.tmp rfl) rfl (ldI_out (hp41.trans (congrArg some hg42))))), .inl (by kernel_rfl), .inl (by kernel_rfl), trivial⟩ ?_
        refine xfg 122 115 [117, 121, 115] rfl (bfalse hc37) (ok_ibin · (.tmp rfl) (.tmp rfl) rfl) ?_
        refine xf 123 [115, 122] rfl (ok_pick_ff · (.tmp rfl) (bfalse hc37) (.tmp rfl)) ?_
        refine xf 124 [123] rfl (ok_move · (.tmp rfl)) ?_
        try dsimp only [w0, w1, w2, w3]
        rcases ifc h with ⟨hc43, h⟩ | ⟨hc43, h⟩
        · refine xfs 125 124 [6, 124] rfl hc43 ?_
          refine zes 126 124 [125, 124] rfl hc43 ⟨.inl (by kernel_rfl), trivial⟩ ?_
          refine xfs 127 124 [8, 124] rfl hc43 ?_
          refine xfs 128 124 [127, 124] rfl hc43 ?_
          try dsimp only [w0, w1, w2, w3]
          refine xfs 129 124 [128, 124] rfl hc43 ?_
          refine x_late (r_skip (dst := some 130) (t := 124) (ts := [129, 124]) rfl (by kernel_rfl) rfl rfl hc43) rfl ⟨.inr (l_skip (dst := some 130) (t := 124) (ts := [129, 124]) rfl (by kernel_rfl) rfl rfl hc43), .inl (by kernel_rfl), .inl (by kernel_rfl), .inl (by kernel_rfl), trivial⟩ ?_
          refine xfs 131 124 [126, 130, 124] rfl hc43 ?_
          refine xf 132 [124, 131] rfl (ok_pick_tt · (.tmp rfl) hc43 (.bool _)) ?_
          try dsimp only [w0, w1, w2, w3]
          refine xf 133 [132] rfl (ok_move · (.tmp rfl)) ?_
          refine xfs 134 133 [11, 133] rfl rfl ?_
          refine xfs 135 133 [8, 133] rfl rfl ?_
          refine zes 136 133 [135, 133] rfl rfl ⟨.inl (by kernel_rfl), .inl (by kernel_rfl), trivial⟩ ?_
          try dsimp only [w0, w1, w2, w3]
          refine zes 137 133 [134, 136, 133] rfl rfl ⟨.inl (by kernel_rfl), .inl (by kernel_rfl), trivial⟩ ?_
          refine xfs 138 133 [137, 133] rfl rfl ?_
          refine xf 139 [133, 138] rfl (ok_pick_tt · (.tmp rfl) rfl (.bool _)) ?_
          refine x_rest rfl ?_
          refine hr_region_end ?_
          try dsimp only [w0, w1, w2, w3]
          try dsimp only [w0, w1, w2, w3]
          exact J5_snd hD hH hrec0 h
        · refine xfg 125 124 [6, 124] rfl (bfalse hc43) (ok_move · (.tmp rfl)) ?_
          obtain ⟨p44, hp44, h⟩ := bindo h
          refine x_goE (e_call_g (dst := some 126) (t := 124) (ts := [125, 124]) rfl (by kernel_rfl) rfl rfl (bfalse hc43) (.func _) (.cons (.tmp rfl) Evs.nil) (HInv.static sendq_Queue_Over.at_ sendq_Queue_Over.body (sendq_Queue_Over.snd  hp44))) rfl ⟨.inl (by kernel_rfl), trivial⟩ ?_
          refine xfg 127 124 [8, 124] rfl (bfalse hc43) (ok_move · (.tmp rfl)) ?_
          obtain ⟨p45, hp45, h⟩ := bindo h
          refine xfg 128 124 [127, 124] rfl (bfalse hc43) (ok_nilCheck_p · (.tmp rfl) hp45) ?_
          try dsimp only [w0, w1, w2, w3]
          refine xfg 129 124 [128, 124] rfl (bfalse hc43) (ok_fieldAddr_s · fi40_4 (by decide) (.tmp rfl) rfl) ?_
          obtain ⟨p46, hp46, h⟩ := bindo h
          obtain ⟨p47, hp47, h⟩ := bindo h
          obtain ⟨hg48, h⟩ := gd h
          refine x_late (r_op_g (dst := some 130) (t := 124) (ts := [129, 124]) rfl (by intro _ _ h; cases h) (by kernel_rfl) rfl rfl (bfalse hc43) (fun _ ho => ok_load_s ho sc4 (.tmp rfl) rfl (ldB_out hp46))) rfl ⟨.inr (l_op_g (dst := some 130) (t := 124) (ts := [129, 124]) rfl (by intro _ _ h; cases h) (by kernel_rfl) rfl rfl (bfalse hc43) (fun _ ho => ok_load_s ho sc4 (.tmp rfl) rfl (ldB_out (hp47.trans (congrArg some hg48))))), .inl (by kernel_rfl), .inl (by kernel_rfl), .inl (by kernel_rfl), trivial⟩ ?_
          refine xfg 131 124 [126, 130, 124] rfl (bfalse hc43) (ok_beq · tu4 (.inr ⟨rfl, rfl⟩) (.tmp rfl) (.tmp rfl)) ?_
          refine xf 132 [124, 131] rfl (ok_pick_ff · (.tmp rfl) (bfalse hc43) (.tmp rfl)) ?_
          try dsimp only [w0, w1, w2, w3]
          refine xf 133 [132] rfl (ok_move · (.tmp rfl)) ?_
          rcases ifc h with ⟨hc49, h⟩ | ⟨hc49, h⟩
          · refine xfs 134 133 [11, 133] rfl hc49 ?_
            refine xfs 135 133 [8, 133] rfl hc49 ?_
            refine zes 136 133 [135, 133] rfl hc49 ⟨.inl (by kernel_rfl), .inl (by kernel_rfl), trivial⟩ ?_
            try dsimp only [w0, w1, w2, w3]
            refine zes 137 133 [134, 136, 133] rfl hc49 ⟨.inl (by kernel_rfl), .inl (by kernel_rfl), trivial⟩ ?_
            refine xfs 138 133 [137, 133] rfl hc49 ?_
            refine xf 139 [133, 138] rfl (ok_pick_tt · (.tmp rfl) hc49 (.bool _)) ?_
            refine x_rest rfl ?_
            refine hr_region_end ?_
            try dsimp only [w0, w1, w2, w3]
            try dsimp only [w0, w1, w2, w3]
            exact J5_snd hD hH hrec0 h
          · refine xfg 134 133 [11, 133] rfl (bfalse hc49) (ok_move · (.tmp rfl)) ?_
            refine xfg 135 133 [8, 133] rfl (bfalse hc49) (ok_move · (.tmp rfl)) ?_
            obtain ⟨p50, hp50, h⟩ := bindo h
            refine x_goE (e_call_g (dst := some 136) (t := 133) (ts := [135, 133]) rfl (by kernel_rfl) rfl rfl (bfalse hc49) (.func _) (.cons (.tmp rfl) Evs.nil) (HInv.static rollcallref08_Queue_Lines.at_ rollcallref08_Queue_Lines.body (rollcallref08_Queue_Lines.snd  hp50))) rfl ⟨.inl (by kernel_rfl), .inl (by kernel_rfl), trivial⟩ ?_
            try dsimp only [w0, w1, w2, w3]
            obtain ⟨p51, hp51, h⟩ := bindo h
            refine x_goE (e_call_g (dst := some 137) (t := 133) (ts := [134, 136, 133]) rfl (by kernel_rfl) rfl rfl (bfalse hc49) (.func _) (.cons (.tmp rfl) (.cons (.tmp rfl) Evs.nil)) (HInv.static rollcallref01_Texts.at_ rollcallref01_Texts.body (rollcallref01_Texts.snd  hp51))) rfl ⟨.inl (by kernel_rfl), .inl (by kernel_rfl), trivial⟩ ?_
            refine xfg 138 133 [137, 133] rfl (bfalse hc49) (ok_not · (.tmp rfl)) ?_
            refine xf 139 [133, 138] rfl (ok_pick_ff · (.tmp rfl) (bfalse hc49) (.tmp rfl)) ?_
            refine x_rest rfl ?_
            refine hr_region_end ?_
            try dsimp only [w0, w1, w2, w3]
            try dsimp only [w0, w1, w2, w3]
            exact J5_snd hD hH hrec0 h
def L3 (D : Dp) (H : Hd) (k : Nat) : Nat → Sl → (Option HA) → (Option HA) → Int → HS → Option ((Bool) × HS)
  | 0, _, _, _, _, _ => none
  | n + 1, y1, y6, y8, y9, S =>
    (if y9 < (Sl.len y1 : Int) then
    (Option.bind (HS.idx S y1 y9 3) fun p15 =>
    (Option.bind (HS.ldI S .i64 (HA.fld p15 0)) fun p16 =>
    (if p16 = 1 then
    (Option.bind (HS.idx S y1 y9 3) fun p18 =>
    (Option.bind (HS.ldI S .i64 (HA.fld p18 2)) fun p19 =>
    (Option.bind (sendq_Queue_Drain.f k y6 p19 S) fun p20 =>
    (Option.bind (HS.text p20.2 p20.1) fun p21 =>
    (Option.bind (HS.idx p20.2 y1 y9 3) fun p22 =>
    (Option.bind (HS.idx S y1 y9 3) fun p23 =>
    (if p23 = p22 then
    (Option.bind (HS.ldI p20.2 .i64 (HA.fld p22 2)) fun p25 =>
    (Option.bind (HS.ldI S .i64 (HA.fld p22 2)) fun p26 =>
    (if p26 = p25 then
    (Option.bind (rollcallref08_Queue_Drain.f y8 p25 p20.2) fun p28 =>
    (Option.bind (HS.text p28.2 p20.1) fun p29 =>
    (if p29 = p21 then
    J4 D H k (L3 D H k n) y1 y6 y8 y9 (decide (p21 = p28.1)) p28.2 else none))) else none))) else none))))))) else
    (Option.bind (HS.idx S y1 y9 3) fun p52 =>
    (Option.bind (HS.ldS S (HA.fld p52 1)) fun p53 =>
    (Option.bind (sendq_Queue_Push.f k y6 p53 S) fun p54 =>
    (Option.bind (HS.idx p54.2 y1 y9 3) fun p55 =>
    (Option.bind (HS.idx S y1 y9 3) fun p56 =>
    (if p56 = p55 then
    (Option.bind (HS.ldS p54.2 (HA.fld p55 1)) fun p58 =>
    (Option.bind (HS.ldS S (HA.fld p55 1)) fun p59 =>
    (if p59 = p58 then
    (Option.bind (rollcallref08_Queue_Push.f k y8 p58 p54.2) fun p61 =>
    J4 D H k (L3 D H k n) y1 y6 y8 y9 (p54.1 == p61.1) p61.2) else none))) else none))))))))) else
    some (true, S))
theorem L3_snd {D : Dp} {H : Hd} {k : Nat} (hD : DSound Try.prog base W0 D) (hH : HSound Try.prog base W0 β0 H)  : ∀ {n : Nat} ⦃y1 : Sl⦄ ⦃y6 : (Option HA)⦄ ⦃y8 : (Option HA)⦄ ⦃y9 : Int⦄ ⦃S : HS⦄ ⦃p : (Bool) × HS⦄ ⦃g0 g2 g3 g4 g5 g7 g10 g11 g12 g13 g14 g15 g16 g17 g18 g19 g20 g21 g22 g23 g24 g25 g26 g27 g28 g29 g30 g31 g32 g33 g34 g35 g36 g37 g38 g39 g40 g41 g42 g43 g44 g45 g46 g47 g48 g49 g50 g51 g52 g53 g54 g55 g56 g57 g58 g59 g60 g61 g62 g63 g64 g65 g66 g67 g68 g69 g70 g71 g72 g73 g74 g75 g76 g77 g78 g79 g80 g81 g82 g83 g84 g85 g86 g87 g88 g89 g90 g91 g92 g93 g94 g95 g96 g97 g98 g99 g100 g101 g102 g103 g104 g105 g106 g107 g108 g109 g110 g111 g112 g113 g114 g115 g116 g117 g118 g119 g120 g121 g122 g123 g124 g125 g126 g127 g128 g129 g130 g131 g132 g133 g134 g135 g136 g137 g138 g139 : HV⦄, L3 D H k n y1 y6 y8 y9 S = some p → HRun Try.prog base W0 β0 5 none [.inLoop c64, .inBlock 2, .code c90] ⟨[g0, (Sl.hv y1), g2, g3, g4, g5, (.ptr y6), g7, (.ptr y8), (.int .i64 y9), g10, g11, g12, g13, g14, g15, g16, g17, g18, g19, g20, g21, g22, g23, g24, g25, g26, g27, g28, g29, g30, g31, g32, g33, g34, g35, g36, g37, g38, g39, g40, g41, g42, g43, g44, g45, g46, g47, g48, g49, g50, g51, g52, g53, g54, g55, g56, g57, g58, g59, g60, g61, g62, g63, g64, g65, g66, g67, g68, g69, g70, g71, g72, g73, g74, g75, g76, g77, g78, g79, g80, g81, g82, g83, g84, g85, g86, g87, g88, g89, g90, g91, g92, g93, g94, g95, g96, g97, g98, g99, g100, g101, g102, g103, g104, g105, g106, g107, g108, g109, g110, g111, g112, g113, g114, g115, g116, g117, g118, g119, g120, g121, g122, g123, g124, g125, g126, g127, g128, g129, g130, g131, g132, g133, g134, g135, g136, g137, g138, g139], []⟩ S (fun v S1 => v = (.bool p.1) ∧ S1 = p.2) := by
  intro n
  induction n with
  | zero => intro _ _ _ _ _ _ _ _ _ _ _ _ _ _ _ _ _ _ _ _ _ _ _ _ _ _ _ _ _ _ _ _ _ _ _ _ _ _ _ _ _ _ _ _ _ _ _ _ _ _ _ _ _ _ _ _ _ _ _ _ _ _ _ _ _ _ _ _ _ _ _ _ _ _ _ _ _ _ _ _ _ _ _ _ _ _ _ _ _ _ _ _ _ _ _ _ _ _ _ _ _ _ _ _ _ _ _ _ _ _ _ _ _ _ _ _ _ _ _ _ _ _ _ _ _ _ _ _ _ _ _ _ _ _ _ _ _ _ _ _ _ _ h; cases h
  | succ n ih =>
    intro y1 y6 y8 y9 S p g0 g2 g3 g4 g5 g7 g10 g11 g12 g13 g14 g15 g16 g17 g18 g19 g20 g21 g22 g23 g24 g25 g26 g27 g28 g29 g30 g31 g32 g33 g34 g35 g36 g37 g38 g39 g40 g41 g42 g43 g44 g45 g46 g47 g48 g49 g50 g51 g52 g53 g54 g55 g56 g57 g58 g59 g60 g61 g62 g63 g64 g65 g66 g67 g68 g69 g70 g71 g72 g73 g74 g75 g76 g77 g78 g79 g80 g81 g82 g83 g84 g85 g86 g87 g88 g89 g90 g91 g92 g93 g94 g95 g96 g97 g98 g99 g100 g101 g102 g103 g104 g105 g106 g107 g108 g109 g110 g111 g112 g113 g114 g115 g116 g117 g118 g119 g120 g121 g122 g123 g124 g125 g126 g127 g128 g129 g130 g131 g132 g133 g134 g135 g136 g137 g138 g139 h
    simp only [L3] at h
    refine hr_inLoop ?_
    refine q_seq rfl ?_
    refine q_seq rfl ?_
    refine q_region rfl rfl ?_
    refine qS 53 rfl (ok_move · (.tmp rfl)) ?_
    refine qS 54 rfl (ok_move · (.tmp rfl)) ?_
    refine qS 55 rfl (ok_len_sl (q := Sl.a y1) (n := Sl.len y1) (z := Sl.cap y1) · rfl tu23 (.tmp rfl)) ?_
    refine qS 56 rfl (ok_ibin · (.tmp rfl) (.tmp rfl) rfl) ?_
    refine hr_region_end ?_
    try dsimp only [w0, w1, w2, w3]
    rcases ifc h with ⟨hc14, h⟩ | ⟨hc14, h⟩
    · refine q_cond_t rfl (.tmp rfl) (decide_eq_true hc14) ?_
      refine q_skipc rfl ?_
      refine q_seq rfl ?_
      refine q_block rfl ?_
      refine q_seq rfl ?_
      refine q_region rfl rfl ?_
      refine qS 10 rfl (ok_assign · (.bool _)) ?_
      refine hr_region_end ?_
      try dsimp only [w0, w1, w2, w3]
      refine q_seq rfl ?_
      refine q_seq rfl ?_
      refine q_region rfl rfl ?_
      refine qS 59 rfl (ok_move · (.tmp rfl)) ?_
      refine qS 60 rfl (ok_move · (.tmp rfl)) ?_
      obtain ⟨p15, hp15, h⟩ := bindo h
      refine qS 61 rfl (ok_indexAddr (s := y1) · tu23 sz30 (.tmp rfl) (.tmp rfl) hp15) ?_
      refine qS 62 rfl (ok_fieldAddr_s · fi30_0 (by decide) (.tmp rfl) rfl) ?_
      try dsimp only [w0, w1, w2, w3]
      obtain ⟨p16, hp16, h⟩ := bindo h
      refine qS 63 rfl (ok_load_s · sc3 (.tmp rfl) rfl (ldI_out hp16)) ?_
      refine qS 64 rfl (ok_ibin · (.tmp rfl) (.int _ _) rfl) ?_
      refine hr_region_end ?_
      try dsimp only [w0, w1, w2, w3]
      rcases ifc h with ⟨hc17, h⟩ | ⟨hc17, h⟩
      · refine q_cond_t rfl (.tmp rfl) (decide_eq_true hc17) ?_
        refine x_start (cls := [0, 0, 0, 1, 0, 1, 2, 3, 0, 0, 0, 3, 0, 3, 2, 0, 0]) (rk := [0, 1, 2, 3, 4, 5, 6, 7, 8, 9, 10, 11, 12, 13, 14, 15, 16]) rfl (by kernel_rfl) ?_
        refine xf 65 [6] rfl (ok_move · (.tmp rfl)) ?_
        refine xf 66 [1] rfl (ok_move · (.tmp rfl)) ?_
        refine xf 67 [9] rfl (ok_move · (.tmp rfl)) ?_
        obtain ⟨p18, hp18, h⟩ := bindo h
        refine xr 68 [66, 67] rfl (ok_indexAddr (s := y1) · tu23 sz30 (.tmp rfl) (.tmp rfl) hp18) ?_
        try dsimp only [w0, w1, w2, w3]
        refine xf 69 [68] rfl (ok_fieldAddr_s · fi30_2 (by decide) (.tmp rfl) rfl) ?_
        obtain ⟨p19, hp19, h⟩ := bindo h
        refine xr 70 [69] rfl (ok_load_s · sc3 (.tmp rfl) rfl (ldI_out hp19)) ?_
        obtain ⟨p20, hp20, h⟩ := bindo h
        refine x_goE (e_call (dst := some 71) (ts := [65, 70]) rfl (by kernel_rfl) (.func _) (.cons (.tmp rfl) (.cons (.tmp rfl) Evs.nil)) (HInv.static sendq_Queue_Drain.at_ sendq_Queue_Drain.body (sendq_Queue_Drain.snd  hp20))) rfl trivial ?_
        obtain ⟨p21, hp21, h⟩ := bindo h
        refine x_late (r_op (dst := some 72) (ts := [71]) rfl (by intro _ _ h; cases h) (by kernel_rfl) (fun _ ho => ok_str_of_bytes (s := p20.1) ho tu31 tu5 tu9 (.tmp rfl) hp21)) rfl ⟨.inl (by kernel_rfl), trivial⟩ ?_
        try dsimp only [w0, w1, w2, w3]
        refine xf 73 [8] rfl (ok_move · (.tmp rfl)) ?_
        refine xf 74 [1] rfl (ok_move · (.tmp rfl)) ?_
        refine xf 75 [9] rfl (ok_move · (.tmp rfl)) ?_
        obtain ⟨p22, hp22, h⟩ := bindo h
        obtain ⟨p23, hp23, h⟩ := bindo h
        obtain ⟨hg24, h⟩ := gd h
        refine x_late (r_op (dst := some 76) (ts := [74, 75]) rfl (by intro _ _ h; cases h) (by kernel_rfl) (fun _ ho => ok_indexAddr (s := y1) ho tu23 sz30 (.tmp rfl) (.tmp rfl) hp22)) rfl ⟨.inr (l_op (dst := some 76) (ts := [74, 75]) rfl (by intro _ _ h; cases h) (by kernel_rfl) (fun _ ho => ok_indexAddr (s := y1) ho tu23 sz30 (.tmp rfl) (.tmp rfl) (hp23.trans (congrArg some hg24)))), trivial⟩ ?_
        try dsimp only [w0, w1, w2, w3]
        refine xf 77 [76] rfl (ok_fieldAddr_s · fi30_2 (by decide) (.tmp rfl) rfl) ?_
        obtain ⟨p25, hp25, h⟩ := bindo h
        obtain ⟨p26, hp26, h⟩ := bindo h
        obtain ⟨hg27, h⟩ := gd h
        refine x_late (r_op (dst := some 78) (ts := [77]) rfl (by intro _ _ h; cases h) (by kernel_rfl) (fun _ ho => ok_load_s ho sc3 (.tmp rfl) rfl (ldI_out hp25))) rfl ⟨.inr (l_op (dst := some 78) (ts := [77]) rfl (by intro _ _ h; cases h) (by kernel_rfl) (fun _ ho => ok_load_s ho sc3 (.tmp rfl) rfl (ldI_out (hp26.trans (congrArg some hg27))))), trivial⟩ ?_
        obtain ⟨p28, hp28, h⟩ := bindo h
        obtain ⟨p29, hp29, h⟩ := bindo h
        obtain ⟨hg30, h⟩ := gd h
        refine x_goE (e_call (dst := some 79) (ts := [73, 78]) rfl (by kernel_rfl) (.func _) (.cons (.tmp rfl) (.cons (.tmp rfl) Evs.nil)) (HInv.static rollcallref08_Queue_Drain.at_ rollcallref08_Queue_Drain.body (rollcallref08_Queue_Drain.snd  hp28))) rfl ⟨.inl (by kernel_rfl), .inl (by kernel_rfl), .inr (l_op (dst := some 72) (ts := [71]) rfl (by intro _ _ h; cases h) (by kernel_rfl) (fun _ ho => ok_str_of_bytes (s := p20.1) ho tu31 tu5 tu9 (.tmp rfl) (hp29.trans (congrArg some hg30)))), trivial⟩ ?_
        refine xf 80 [72, 79] rfl (ok_sbin · (.tmp rfl) (.tmp rfl) rfl) ?_
        try dsimp only [w0, w1, w2, w3]
        refine xf 10 [80] rfl (ok_assign · (.tmp rfl)) ?_
        refine x_rest rfl ?_
        refine hr_region_end ?_
        try dsimp only [w0, w1, w2, w3]
        try dsimp only [w0, w1, w2, w3]
        exact J4_snd hD hH ih h
      · refine q_cond_f rfl (.tmp rfl) (decide_eq_false hc17) ?_
        refine x_start (cls := [0, 0, 0, 1, 0, 1, 2, 0, 0, 0, 3, 0, 3, 2, 0, 0]) (rk := [0, 1, 2, 3, 4, 5, 6, 7, 8, 9, 10, 11, 12, 13, 14, 15]) rfl (by kernel_rfl) ?_
        refine xf 81 [6] rfl (ok_move · (.tmp rfl)) ?_
        refine xf 82 [1] rfl (ok_move · (.tmp rfl)) ?_
        refine xf 83 [9] rfl (ok_move · (.tmp rfl)) ?_
        obtain ⟨p52, hp52, h⟩ := bindo h
        refine xr 84 [82, 83] rfl (ok_indexAddr (s := y1) · tu23 sz30 (.tmp rfl) (.tmp rfl) hp52) ?_
        try dsimp only [w0, w1, w2, w3]
        refine xf 85 [84] rfl (ok_fieldAddr_s · fi30_1 (by decide) (.tmp rfl) rfl) ?_
        obtain ⟨p53, hp53, h⟩ := bindo h
        refine xr 86 [85] rfl (ok_load_s · sc9 (.tmp rfl) rfl (ldS_out hp53)) ?_
        obtain ⟨p54, hp54, h⟩ := bindo h
        refine x_goE (e_call (dst := some 87) (ts := [81, 86]) rfl (by kernel_rfl) (.func _) (.cons (.tmp rfl) (.cons (.tmp rfl) Evs.nil)) (HInv.static sendq_Queue_Push.at_ sendq_Queue_Push.body (sendq_Queue_Push.snd  hp54))) rfl trivial ?_
        refine xf 88 [8] rfl (ok_move · (.tmp rfl)) ?_
        try dsimp only [w0, w1, w2, w3]
        refine xf 89 [1] rfl (ok_move · (.tmp rfl)) ?_
        refine xf 90 [9] rfl (ok_move · (.tmp rfl)) ?_
        obtain ⟨p55, hp55, h⟩ := bindo h
        obtain ⟨p56, hp56, h⟩ := bindo h
        obtain ⟨hg57, h⟩ := gd h
        refine x_late (r_op (dst := some 91) (ts := [89, 90]) rfl (by intro _ _ h; cases h) (by kernel_rfl) (fun _ ho => ok_indexAddr (s := y1) ho tu23 sz30 (.tmp rfl) (.tmp rfl) hp55)) rfl ⟨.inr (l_op (dst := some 91) (ts := [89, 90]) rfl (by intro _ _ h; cases h) (by kernel_rfl) (fun _ ho => ok_indexAddr (s := y1) ho tu23 sz30 (.tmp rfl) (.tmp rfl) (hp56.trans (congrArg some hg57)))), trivial⟩ ?_
        refine xf 92 [91] rfl (ok_fieldAddr_s · fi30_1 (by decide) (.tmp rfl) rfl) ?_
        try dsimp only [w0, w1, w2, w3]
        obtain ⟨p58, hp58, h⟩ := bindo h
        obtain ⟨p59, hp59, h⟩ := bindo h
        obtain ⟨hg60, h⟩ := gd h
        refine x_late (r_op (dst := some 93) (ts := [92]) rfl (by intro _ _ h; cases h) (by kernel_rfl) (fun _ ho => ok_load_s ho sc9 (.tmp rfl) rfl (ldS_out hp58))) rfl ⟨.inr (l_op (dst := some 93) (ts := [92]) rfl (by intro _ _ h; cases h) (by kernel_rfl) (fun _ ho => ok_load_s ho sc9 (.tmp rfl) rfl (ldS_out (hp59.trans (congrArg some hg60))))), trivial⟩ ?_
        obtain ⟨p61, hp61, h⟩ := bindo h
        refine x_goE (e_call (dst := some 94) (ts := [88, 93]) rfl (by kernel_rfl) (.func _) (.cons (.tmp rfl) (.cons (.tmp rfl) Evs.nil)) (HInv.static rollcallref08_Queue_Push.at_ rollcallref08_Queue_Push.body (rollcallref08_Queue_Push.snd  hp61))) rfl ⟨.inl (by kernel_rfl), .inl (by kernel_rfl), trivial⟩ ?_
        refine xf 95 [87, 94] rfl (ok_beq · tu4 (.inl ⟨rfl, rfl⟩) (.tmp rfl) (.tmp rfl)) ?_
        refine xf 10 [95] rfl (ok_assign · (.tmp rfl)) ?_
        refine x_rest rfl ?_
        refine hr_region_end ?_
        try dsimp only [w0, w1, w2, w3]
        try dsimp only [w0, w1, w2, w3]
        exact J4_snd hD hH ih h
    · refine q_cond_f rfl (.tmp rfl) (decide_eq_false hc14) ?_
      refine q_exit rfl rfl ?_
      refine q_seq rfl ?_
      refine q_region rfl rfl ?_
      refine qS 4 rfl (ok_assign · (.bool _)) ?_
      refine hr_region_end ?_
      try dsimp only [w0, w1, w2, w3]
      cases h
      exact q_ret rfl at_.at_ rfl (res1 rfl rfl) ⟨rfl, rfl⟩
def J1 (D : Dp) (H : Hd) (k : Nat) (y0 : Int) (y1 : Sl) (y6 : (Option HA)) (y7 : Int) (y41 : Bool) (S : HS) : Option ((Bool) × HS) :=
  (if y41 = true then
  (if y7 = 2 then
  J2 D H k (Option.isNone y6) S else
  J2 D H k false S) else
  (if (!decide (y7 = 0)) = true then
  some (false, S) else
  (letv (HS.new S (.cells 5 [[(.int .i64 y0), (Sl.hv Sl.nil), (.str []), (.int .i64 0), (.bool false)]] true)) fun p13 =>
  L3 D H k k y1 y6 (some (HA.cell0 S.next)) 0 p13)))
theorem J1_snd {D : Dp} {H : Hd} {k : Nat} (hD : DSound Try.prog base W0 D) (hH : HSound Try.prog base W0 β0 H)  {y0 : Int} {y1 : Sl} {y6 : (Option HA)} {y7 : Int} {y41 : Bool} {S : HS} {p : (Bool) × HS} {g2 g3 g4 g5 g8 g9 g10 g11 g12 g13 g14 g15 g16 g17 g18 g19 g20 g21 g22 g23 g24 g25 g26 g27 g28 g29 g30 g31 g32 g33 g34 g35 g36 g37 g38 g39 g40 g42 g43 g44 g45 g46 g47 g48 g49 g50 g51 g52 g53 g54 g55 g56 g57 g58 g59 g60 g61 g62 g63 g64 g65 g66 g67 g68 g69 g70 g71 g72 g73 g74 g75 g76 g77 g78 g79 g80 g81 g82 g83 g84 g85 g86 g87 g88 g89 g90 g91 g92 g93 g94 g95 g96 g97 g98 g99 g100 g101 g102 g103 g104 g105 g106 g107 g108 g109 g110 g111 g112 g113 g114 g115 g116 g117 g118 g119 g120 g121 g122 g123 g124 g125 g126 g127 g128 g129 g130 g131 g132 g133 g134 g135 g136 g137 g138 g139 : HV} (h : J1 D H k y0 y1 y6 y7 y41 S = some p) : HRun Try.prog base W0 β0 5 none [.code c44, .code c49] ⟨[(.int .i64 y0), (Sl.hv y1), g2, g3, g4, g5, (.ptr y6), (.int .i64 y7), g8, g9, g10, g11, g12, g13, g14, g15, g16, g17, g18, g19, g20, g21, g22, g23, g24, g25, g26, g27, g28, g29, g30, g31, g32, g33, g34, g35, g36, g37, g38, g39, g40, (.bool y41), g42, g43, g44, g45, g46, g47, g48, g49, g50, g51, g52, g53, g54, g55, g56, g57, g58, g59, g60, g61, g62, g63, g64, g65, g66, g67, g68, g69, g70, g71, g72, g73, g74, g75, g76, g77, g78, g79, g80, g81, g82, g83, g84, g85, g86, g87, g88, g89, g90, g91, g92, g93, g94, g95, g96, g97, g98, g99, g100, g101, g102, g103, g104, g105, g106, g107, g108, g109, g110, g111, g112, g113, g114, g115, g116, g117, g118, g119, g120, g121, g122, g123, g124, g125, g126, g127, g128, g129, g130, g131, g132, g133, g134, g135, g136, g137, g138, g139], []⟩ S (fun v S1 => v = (.bool p.1) ∧ S1 = p.2) := by
  unfold J1 at h
  rcases ifc h with ⟨hc10, h⟩ | ⟨hc10, h⟩
  · refine q_cond_t rfl (.tmp rfl) hc10 ?_
    refine q_seq rfl ?_
    refine q_region rfl rfl ?_
    refine qS 42 rfl (ok_move · (.tmp rfl)) ?_
    refine qS 43 rfl (ok_ibin · (.tmp rfl) (.int _ _) rfl) ?_
    refine qS 44 rfl (ok_move · (.tmp rfl)) ?_
    rcases ifc h with ⟨hc11, h⟩ | ⟨hc11, h⟩
    · refine qG 44 45 rfl (decide_eq_true hc11) (ok_move · (.tmp rfl)) ?_
      try dsimp only [w0, w1, w2, w3]
      refine qG 44 46 rfl (decide_eq_true hc11) (ok_nil_ptr · tu25 (.tmp rfl) (.inl ⟨rfl, rfl⟩)) ?_
      refine qS 47 rfl (ok_pick_tt · (.tmp rfl) (decide_eq_true hc11) (.tmp rfl)) ?_
      try dsimp only [w0, w1, w2, w3]
      exact J2_snd hD hH h
    · refine q_skip (dst := some 45) (t := 44) rfl rfl rfl (decide_eq_false hc11) ?_
      try dsimp only [w0, w1, w2, w3]
      refine q_skip (dst := some 46) (t := 44) rfl rfl rfl (decide_eq_false hc11) ?_
      refine qS 47 rfl (ok_pick_ff · (.tmp rfl) (decide_eq_false hc11) (.bool _)) ?_
      try dsimp only [w0, w1, w2, w3]
      exact J2_snd hD hH h
  · refine q_cond_f rfl (.tmp rfl) (bfalse hc10) ?_
    refine q_skipc rfl ?_
    refine q_seq rfl ?_
    refine q_seq rfl ?_
    refine q_region rfl rfl ?_
    refine qS 48 rfl (ok_move · (.tmp rfl)) ?_
    refine qS 49 rfl (ok_ibin · (.tmp rfl) (.int _ _) rfl) ?_
    refine hr_region_end ?_
    try dsimp only [w0, w1, w2, w3]
    rcases ifc h with ⟨hc12, h⟩ | ⟨hc12, h⟩
    · refine q_cond_t rfl (.tmp rfl) hc12 ?_
      refine q_seq rfl ?_
      refine q_region rfl rfl ?_
      refine qS 4 rfl (ok_assign · (.bool _)) ?_
      refine hr_region_end ?_
      try dsimp only [w0, w1, w2, w3]
      cases h
      exact q_ret rfl at_.at_ rfl (res1 rfl rfl) ⟨rfl, rfl⟩
    · refine q_cond_f rfl (.tmp rfl) (bfalse hc12) ?_
      refine q_skipc rfl ?_
      refine q_seq rfl ?_
      refine q_region rfl rfl ?_
      refine qS 50 rfl (ok_move · (.tmp rfl)) ?_
      refine qS 51 rfl (ok_build (is := [0]) (xs := [(.tmp 50)]) (r := [(.int .i64 y0), (Sl.hv Sl.nil), (.str []), (.int .i64 0), (.bool false)]) st40 · rfl rfl (.cons (.tmp rfl) Evs.nil) rfl) ?_
      obtain ⟨p13, hp13, h⟩ := leto h
      refine qS 52 rfl (ok_box_e · (.tmp rfl) (Nat.zero_lt_succ _) rfl hp13) ?_
      refine qS 8 rfl (ok_assign · (.tmp rfl)) ?_
      refine hr_region_end ?_
      try dsimp only [w0, w1, w2, w3]
      refine q_seq rfl ?_
      refine q_seq rfl ?_
      refine q_region rfl rfl ?_
      refine qS 9 rfl (ok_assign · (.int _ _)) ?_
      refine hr_region_end ?_
      try dsimp only [w0, w1, w2, w3]
      refine q_block rfl ?_
      refine q_loop rfl ?_
      try dsimp only [w0, w1, w2, w3]
      exact L3_snd hD hH h
def L0 (D : Dp) (H : Hd) (k : Nat) : Nat → Int → Sl → Int → HS → Option ((Bool) × HS)
  | 0, _, _, _, _ => none
  | n + 1, y0, y1, y5, S =>
    (if y5 < (Sl.len y1 : Int) then
    (Option.bind (HS.idx S y1 y5 3) fun p5 =>
    (Option.bind (HS.ldS S (HA.fld p5 1)) fun p6 =>
    (if (List.length p6 : Int) > 600 then
    some (true, S) else
    (L0 D H k n) y0 y1 (w64 (y5 + 1)) S))) else
    (Option.bind (sendq_New.f y0 S) fun p8 =>
    (if y0 < 512 then
    J1 D H k y0 y1 p8.1.1 p8.1.2 true p8.2 else
    J1 D H k y0 y1 p8.1.1 p8.1.2 (decide (y0 > 65536)) p8.2)))
theorem L0_snd {D : Dp} {H : Hd} {k : Nat} (hD : DSound Try.prog base W0 D) (hH : HSound Try.prog base W0 β0 H)  : ∀ {n : Nat} ⦃y0 : Int⦄ ⦃y1 : Sl⦄ ⦃y5 : Int⦄ ⦃S : HS⦄ ⦃p : (Bool) × HS⦄ ⦃g2 g3 g4 g6 g7 g8 g9 g10 g11 g12 g13 g14 g15 g16 g17 g18 g19 g20 g21 g22 g23 g24 g25 g26 g27 g28 g29 g30 g31 g32 g33 g34 g35 g36 g37 g38 g39 g40 g41 g42 g43 g44 g45 g46 g47 g48 g49 g50 g51 g52 g53 g54 g55 g56 g57 g58 g59 g60 g61 g62 g63 g64 g65 g66 g67 g68 g69 g70 g71 g72 g73 g74 g75 g76 g77 g78 g79 g80 g81 g82 g83 g84 g85 g86 g87 g88 g89 g90 g91 g92 g93 g94 g95 g96 g97 g98 g99 g100 g101 g102 g103 g104 g105 g106 g107 g108 g109 g110 g111 g112 g113 g114 g115 g116 g117 g118 g119 g120 g121 g122 g123 g124 g125 g126 g127 g128 g129 g130 g131 g132 g133 g134 g135 g136 g137 g138 g139 : HV⦄, L0 D H k n y0 y1 y5 S = some p → HRun Try.prog base W0 β0 5 none [.inLoop c23, .inBlock 0, .code c39] ⟨[(.int .i64 y0), (Sl.hv y1), g2, g3, g4, (.int .i64 y5), g6, g7, g8, g9, g10, g11, g12, g13, g14, g15, g16, g17, g18, g19, g20, g21, g22, g23, g24, g25, g26, g27, g28, g29, g30, g31, g32, g33, g34, g35, g36, g37, g38, g39, g40, g41, g42, g43, g44, g45, g46, g47, g48, g49, g50, g51, g52, g53, g54, g55, g56, g57, g58, g59, g60, g61, g62, g63, g64, g65, g66, g67, g68, g69, g70, g71, g72, g73, g74, g75, g76, g77, g78, g79, g80, g81, g82, g83, g84, g85, g86, g87, g88, g89, g90, g91, g92, g93, g94, g95, g96, g97, g98, g99, g100, g101, g102, g103, g104, g105, g106, g107, g108, g109, g110, g111, g112, g113, g114, g115, g116, g117, g118, g119, g120, g121, g122, g123, g124, g125, g126, g127, g128, g129, g130, g131, g132, g133, g134, g135, g136, g137, g138, g139], []⟩ S (fun v S1 => v = (.bool p.1) ∧ S1 = p.2) := by
  intro n
  induction n with
  | zero => intro _ _ _ _ _ _ _ _ _ _ _ _ _ _ _ _ _ _ _ _ _ _ _ _ _ _ _ _ _ _ _ _ _ _ _ _ _ _ _ _ _ _ _ _ _ _ _ _ _ _ _ _ _ _ _ _ _ _ _ _ _ _ _ _ _ _ _ _ _ _ _ _ _ _ _ _ _ _ _ _ _ _ _ _ _ _ _ _ _ _ _ _ _ _ _ _ _ _ _ _ _ _ _ _ _ _ _ _ _ _ _ _ _ _ _ _ _ _ _ _ _ _ _ _ _ _ _ _ _ _ _ _ _ _ _ _ _ _ _ _ _ _ h; cases h
  | succ n ih =>
    intro y0 y1 y5 S p g2 g3 g4 g6 g7 g8 g9 g10 g11 g12 g13 g14 g15 g16 g17 g18 g19 g20 g21 g22 g23 g24 g25 g26 g27 g28 g29 g30 g31 g32 g33 g34 g35 g36 g37 g38 g39 g40 g41 g42 g43 g44 g45 g46 g47 g48 g49 g50 g51 g52 g53 g54 g55 g56 g57 g58 g59 g60 g61 g62 g63 g64 g65 g66 g67 g68 g69 g70 g71 g72 g73 g74 g75 g76 g77 g78 g79 g80 g81 g82 g83 g84 g85 g86 g87 g88 g89 g90 g91 g92 g93 g94 g95 g96 g97 g98 g99 g100 g101 g102 g103 g104 g105 g106 g107 g108 g109 g110 g111 g112 g113 g114 g115 g116 g117 g118 g119 g120 g121 g122 g123 g124 g125 g126 g127 g128 g129 g130 g131 g132 g133 g134 g135 g136 g137 g138 g139 h
    simp only [L0] at h
    refine hr_inLoop ?_
    refine q_seq rfl ?_
    refine q_seq rfl ?_
    refine q_region rfl rfl ?_
    refine qS 18 rfl (ok_move · (.tmp rfl)) ?_
    refine qS 19 rfl (ok_move · (.tmp rfl)) ?_
    refine qS 20 rfl (ok_len_sl (q := Sl.a y1) (n := Sl.len y1) (z := Sl.cap y1) · rfl tu23 (.tmp rfl)) ?_
    refine qS 21 rfl (ok_ibin · (.tmp rfl) (.tmp rfl) rfl) ?_
    refine hr_region_end ?_
    try dsimp only [w0, w1, w2, w3]
    rcases ifc h with ⟨hc4, h⟩ | ⟨hc4, h⟩
    · refine q_cond_t rfl (.tmp rfl) (decide_eq_true hc4) ?_
      refine q_skipc rfl ?_
      refine q_seq rfl ?_
      refine q_block rfl ?_
      refine q_seq rfl ?_
      refine q_region rfl rfl ?_
      refine qS 24 rfl (ok_move · (.tmp rfl)) ?_
      refine qS 25 rfl (ok_move · (.tmp rfl)) ?_
      obtain ⟨p5, hp5, h⟩ := bindo h
      refine qS 26 rfl (ok_indexAddr (s := y1) · tu23 sz30 (.tmp rfl) (.tmp rfl) hp5) ?_
      refine qS 27 rfl (ok_fieldAddr_s · fi30_1 (by decide) (.tmp rfl) rfl) ?_
      try dsimp only [w0, w1, w2, w3]
      obtain ⟨p6, hp6, h⟩ := bindo h
      refine qS 28 rfl (ok_load_s · sc9 (.tmp rfl) rfl (ldS_out hp6)) ?_
      refine qS 29 rfl (ok_len_str · rfl tu9 (.tmp rfl)) ?_
      refine qS 30 rfl (ok_ibin · (.tmp rfl) (.int _ _) rfl) ?_
      refine hr_region_end ?_
      try dsimp only [w0, w1, w2, w3]
      rcases ifc h with ⟨hc7, h⟩ | ⟨hc7, h⟩
      · refine q_cond_t rfl (.tmp rfl) (decide_eq_true hc7) ?_
        refine q_seq rfl ?_
        refine q_region rfl rfl ?_
        refine qS 4 rfl (ok_assign · (.bool _)) ?_
        refine hr_region_end ?_
        try dsimp only [w0, w1, w2, w3]
        cases h
        exact q_ret rfl at_.at_ rfl (res1 rfl rfl) ⟨rfl, rfl⟩
      · refine q_cond_f rfl (.tmp rfl) (decide_eq_false hc7) ?_
        refine q_skipc rfl ?_
        refine hr_inBlock ?_
        refine q_region rfl rfl ?_
        refine qS 22 rfl (ok_move · (.tmp rfl)) ?_
        refine qS 23 rfl (ok_ibin · (.tmp rfl) (.int _ _) rfl) ?_
        refine qS 5 rfl (ok_assign · (.tmp rfl)) ?_
        refine hr_region_end ?_
        try dsimp only [w0, w1, w2, w3]
        try dsimp only [w0, w1, w2, w3]
        exact ih h
    · refine q_cond_f rfl (.tmp rfl) (decide_eq_false hc4) ?_
      refine q_exit rfl rfl ?_
      refine q_seq rfl ?_
      refine q_region rfl rfl ?_
      refine qS 32 rfl (ok_move · (.tmp rfl)) ?_
      obtain ⟨p8, hp8, h⟩ := bindo h
      refine q_call (dst := some 33) rfl (.func _) (.cons (.tmp rfl) Evs.nil) (HInv.static sendq_New.at_ sendq_New.body (sendq_New.snd  hp8)) ?_
      rintro _ _ ⟨rfl, rfl⟩
      refine qS 31 rfl (ok_move · (.tmp rfl)) ?_
      refine qS 34 rfl (ok_extract · (.tmp rfl) rfl) ?_
      try dsimp only [w0, w1, w2, w3]
      refine qS 35 rfl (ok_extract · (.tmp rfl) rfl) ?_
      refine qS 6 rfl (ok_assign · (.tmp rfl)) ?_
      refine qS 7 rfl (ok_assign · (.tmp rfl)) ?_
      refine hr_region_end ?_
      try dsimp only [w0, w1, w2, w3]
      refine q_seq rfl ?_
      refine q_seq rfl ?_
      refine q_region rfl rfl ?_
      refine qS 36 rfl (ok_move · (.tmp rfl)) ?_
      refine qS 37 rfl (ok_ibin · (.tmp rfl) (.int _ _) rfl) ?_
      refine qS 38 rfl (ok_move · (.tmp rfl)) ?_
      rcases ifc h with ⟨hc9, h⟩ | ⟨hc9, h⟩
      · refine q_skip (dst := some 39) (t := 38) rfl rfl rfl (decide_eq_true hc9) ?_
        try dsimp only [w0, w1, w2, w3]
        refine q_skip (dst := some 40) (t := 38) rfl rfl rfl (decide_eq_true hc9) ?_
        refine qS 41 rfl (ok_pick_tt · (.tmp rfl) (decide_eq_true hc9) (.bool _)) ?_
        refine hr_region_end ?_
        try dsimp only [w0, w1, w2, w3]
        try dsimp only [w0, w1, w2, w3]
        exact J1_snd hD hH h
      · refine qG 38 39 rfl (decide_eq_false hc9) (ok_move · (.tmp rfl)) ?_
        try dsimp only [w0, w1, w2, w3]
        refine qG 38 40 rfl (decide_eq_false hc9) (ok_ibin · (.tmp rfl) (.int _ _) rfl) ?_
        refine qS 41 rfl (ok_pick_ff · (.tmp rfl) (decide_eq_false hc9) (.tmp rfl)) ?_
        refine hr_region_end ?_
        try dsimp only [w0, w1, w2, w3]
        try dsimp only [w0, w1, w2, w3]
        exact J1_snd hD hH h
def f (D : Dp) (H : Hd) (k : Nat) (x0 : Int) (x1 : Sl) (S : HS) : Option ((Bool) × HS) :=
  (Option.bind (rollcalllaw08_awake.f D H k S) fun p1 =>
  (if (!p1.1) = true then
  some (false, p1.2) else
  (if (Sl.len x1 : Int) > 40 then
  some (true, p1.2) else
  L0 D H k k x0 x1 0 p1.2)))
theorem snd {D : Dp} {H : Hd} {k : Nat} {x0 : Int} {x1 : Sl} {S : HS} (hD : DSound Try.prog base W0 D) (hH : HSound Try.prog base W0 β0 H)  {p : (Bool) × HS} (h : f D H k x0 x1 S = some p) : HCall Try.prog base W0 β0 5 [(.int .i64 x0), (Sl.hv x1)] S (fun v S1 => v = (.bool p.1) ∧ S1 = p.2) := by
  unfold f at h
  refine HCall.of_run at_.at_ body ?_
  show HRun Try.prog base W0 β0 5 none [.code c0] ⟨[(.int .i64 x0), (Sl.hv x1), τ, τ, τ, τ, τ, τ, τ, τ, τ, τ, τ, τ, τ, τ, τ, τ, τ, τ, τ, τ, τ, τ, τ, τ, τ, τ, τ, τ, τ, τ, τ, τ, τ, τ, τ, τ, τ, τ, τ, τ, τ, τ, τ, τ, τ, τ, τ, τ, τ, τ, τ, τ, τ, τ, τ, τ, τ, τ, τ, τ, τ, τ, τ, τ, τ, τ, τ, τ, τ, τ, τ, τ, τ, τ, τ, τ, τ, τ, τ, τ, τ, τ, τ, τ, τ, τ, τ, τ, τ, τ, τ, τ, τ, τ, τ, τ, τ, τ, τ, τ, τ, τ, τ, τ, τ, τ, τ, τ, τ, τ, τ, τ, τ, τ, τ, τ, τ, τ, τ, τ, τ, τ, τ, τ, τ, τ, τ, τ, τ, τ, τ, τ, τ, τ, τ, τ, τ, τ], []⟩ S _
  refine q_seq rfl ?_
  refine q_region rfl rfl ?_
  refine qS 4 rfl (ok_assign · (.bool _)) ?_
  refine hr_region_end ?_
  try dsimp only [w0, w1, w2, w3]
  refine q_seq rfl ?_
  refine q_seq rfl ?_
  refine q_region rfl rfl ?_
  obtain ⟨p1, hp1, h⟩ := bindo h
  refine q_call (dst := some 13) rfl (.func _) Evs.nil (HInv.static rollcalllaw08_awake.at_ rollcalllaw08_awake.body (rollcalllaw08_awake.snd hD hH hp1)) ?_
  rintro _ _ ⟨rfl, rfl⟩
  refine qS 14 rfl (ok_not · (.tmp rfl)) ?_
  refine hr_region_end ?_
  try dsimp only [w0, w1, w2, w3]
  rcases ifc h with ⟨hc2, h⟩ | ⟨hc2, h⟩
  · refine q_cond_t rfl (.tmp rfl) hc2 ?_
    refine q_seq rfl ?_
    refine q_region rfl rfl ?_
    refine qS 4 rfl (ok_assign · (.bool _)) ?_
    refine hr_region_end ?_
    try dsimp only [w0, w1, w2, w3]
    cases h
    exact q_ret rfl at_.at_ rfl (res1 rfl rfl) ⟨rfl, rfl⟩
  · refine q_cond_f rfl (.tmp rfl) (bfalse hc2) ?_
    refine q_skipc rfl ?_
    refine q_seq rfl ?_
    refine q_seq rfl ?_
    refine q_region rfl rfl ?_
    refine qS 15 rfl (ok_move · (.tmp rfl)) ?_
    refine qS 16 rfl (ok_len_sl (q := Sl.a x1) (n := Sl.len x1) (z := Sl.cap x1) · rfl tu23 (.tmp rfl)) ?_
    refine qS 17 rfl (ok_ibin · (.tmp rfl) (.int _ _) rfl) ?_
    refine hr_region_end ?_
    try dsimp only [w0, w1, w2, w3]
    rcases ifc h with ⟨hc3, h⟩ | ⟨hc3, h⟩
    · refine q_cond_t rfl (.tmp rfl) (decide_eq_true hc3) ?_
      refine q_seq rfl ?_
      refine q_region rfl rfl ?_
      refine qS 4 rfl (ok_assign · (.bool _)) ?_
      refine hr_region_end ?_
      try dsimp only [w0, w1, w2, w3]
      cases h
      exact q_ret rfl at_.at_ rfl (res1 rfl rfl) ⟨rfl, rfl⟩
    · refine q_cond_f rfl (.tmp rfl) (decide_eq_false hc3) ?_
      refine q_skipc rfl ?_
      refine q_seq rfl ?_
      refine q_seq rfl ?_
      refine q_region rfl rfl ?_
      refine qS 5 rfl (ok_assign · (.int _ _)) ?_
      refine hr_region_end ?_
      try dsimp only [w0, w1, w2, w3]
      refine q_block rfl ?_
      refine q_loop rfl ?_
      try dsimp only [w0, w1, w2, w3]
      exact L0_snd hD hH h
end
end rollcalllaw08_SendqPlays
section
variable {base : Nat} {W0 : World} {β0 : Bt}
def call_24 (D : Dp) (H : Hd) (k : Nat) (vs : List HV) (S : HS) : Option (HV × HS) :=
  Option.bind (args1 vs) fun a =>
  Option.bind (dF a) fun p0 =>
  Option.bind (sendq_Queue_Lines_1.f p0) fun q =>
  some (.tup [], S)
theorem call_24_snd {D : Dp} {H : Hd} {k : Nat} (hD : DSound Try.prog base W0 D) (hH : HSound Try.prog base W0 β0 H) (hG : GF W0 base) {vs : List HV} {S : HS} {p : HV × HS} (h : call_24 D H k vs S = some p) : HCall Try.prog base W0 β0 24 vs S (fun v1 S1 => v1 = p.1 ∧ S1 = p.2) := by
  unfold call_24 at h
  obtain ⟨a, ha, h⟩ := bindo h
  obtain ⟨p0, hp0, h⟩ := bindo h
  obtain ⟨q, hq, h⟩ := bindo h
  rw [args1_out ha, dF_out hp0]
  cases h
  exact sendq_Queue_Lines_1.snd hq
def call_25 (D : Dp) (H : Hd) (k : Nat) (vs : List HV) (S : HS) : Option (HV × HS) :=
  Option.bind (args2 vs) fun a =>
  Option.bind (dF a.1) fun p0 =>
  Option.bind (dP a.2) fun p1 =>
  Option.bind (sendq_Queue_Lines_2.f D H k p0 p1 S) fun q =>
  some (.tup [], q.2)
theorem call_25_snd {D : Dp} {H : Hd} {k : Nat} (hD : DSound Try.prog base W0 D) (hH : HSound Try.prog base W0 β0 H) (hG : GF W0 base) {vs : List HV} {S : HS} {p : HV × HS} (h : call_25 D H k vs S = some p) : HCall Try.prog base W0 β0 25 vs S (fun v1 S1 => v1 = p.1 ∧ S1 = p.2) := by
  unfold call_25 at h
  obtain ⟨a, ha, h⟩ := bindo h
  obtain ⟨p0, hp0, h⟩ := bindo h
  obtain ⟨p1, hp1, h⟩ := bindo h
  obtain ⟨q, hq, h⟩ := bindo h
  rw [args2_out ha, dF_out hp0, dP_out hp1]
  cases h
  exact sendq_Queue_Lines_2.snd hD hH hG hq
def disp (k : Nat) : Nat → Dp
  | 0 => fun _ _ _ _ => none
  | n + 1 => fun H fv vs S => match fv with
    | .fn (.yield l) [] [] => Option.bind (H l) fun r => r vs S
    | .fn (.func f) xs ys => if f = 24 then call_24 (disp k n) H k (xs ++ vs ++ ys) S else if f = 25 then call_25 (disp k n) H k (xs ++ vs ++ ys) S else none
    | _ => none
theorem disp_func {k n : Nat} {H : Hd} {f : Nat} {xs ys vs : List HV} {S : HS} : disp k (n + 1) H (.fn (.func f) xs ys) vs S = (if f = 24 then call_24 (disp k n) H k (xs ++ vs ++ ys) S else if f = 25 then call_25 (disp k n) H k (xs ++ vs ++ ys) S else none) := rfl
theorem disp_yield {k n : Nat} {H : Hd} {l : Nat} {vs : List HV} {S : HS} : disp k (n + 1) H (.fn (.yield l) [] []) vs S = Option.bind (H l) fun r => r vs S := rfl
theorem disp_snd {k : Nat} (hG : GF W0 base) : ∀ n, DSound Try.prog base W0 (disp k n) := by
  intro n
  induction n with
  | zero => intro _ _ _ _ _ _ _ _ h; cases h
  | succ n ih =>
    intro β0 H hH fv vs S v S' h
    unfold disp at h
    split at h
    · obtain ⟨r, hr, h⟩ := bindo h
      exact hH _ _ hr _ _ _ _ h
    · skip
      rcases ifc h with ⟨hf, h⟩ | ⟨hf, h⟩
      · subst hf; exact HInv.func sendq_Queue_Lines_1.at_ sendq_Queue_Lines_1.body (call_24_snd (k := k) ih hH hG h)
      rcases ifc h with ⟨hf, h⟩ | ⟨hf, h⟩
      · subst hf; exact HInv.func sendq_Queue_Lines_2.at_ sendq_Queue_Lines_2.body (call_25_snd (k := k) ih hH hG h)
      cases h
    · cases h
end
end Go.Proofs.Ytpjabhpfaahgoaa.X
