/- Functions of the program, each as a Lean function over the layer HL: a call answers what the Lean function answers, where it answers. -/
import Derived.Test.YtdgmehfhgppheaaProg
import Derived.Test.YtdgmehfhgppheaaPrS
namespace Go.Proofs.Ytdgmehfhgppheaa.X
open Go.Proofs.Ytdgmehfhgppheaa.HL
set_option linter.unusedVariables false
set_option linter.unusedSimpArgs false
set_option maxRecDepth 20000
set_option maxHeartbeats 4000000
namespace slices_Values_int_int_1
theorem at_ : FnAt Try.prog 68 Try.f68 := ⟨Try.func68, by kernel_rfl⟩
noncomputable def d0 := (Try.f68.body).getD .skip
noncomputable def r1 := kR (kA d0)
noncomputable def d4 := kA (kA (kB d0))
noncomputable def r5 := kR (kA d4)
noncomputable def r13 := kR (kA (kA (kA (kB (kB d4)))))
noncomputable def r15 := kR (kA (kB (kA (kA (kB (kB d4))))))
noncomputable def r19 := kR (kB (kB (kB d4)))
noncomputable def c4 : Code := .seq (.region 1 r5 false) (.seq (.cond (.tmp 8) .skip (.exit 0)) (.seq (.block 1 (.seq (.region 2 r13 false) (.seq (.region 3 r15 false) (.cond (.tmp 14) .ret .skip)))) (.region 4 r19 false)))
noncomputable def c0 : Code := .seq (.region 0 r1 false) (.block 0 (.loop c4))
theorem body : Try.f68.body = some c0 := by kernel_rfl
section
variable {base : Nat} {W0 : World} {β0 : Bt}
def L0 (D : Dp) (H : Hd) (k : Nat) : Nat → HV → Sl → Int → Int → HS → Option ((Unit) × HS)
  | 0, _, _, _, _, _ => none
  | n + 1, y0, y5, y6, y7, S =>
    (if y7 < y6 then
    (Option.bind (HS.idx S y5 y7 1) fun p4 =>
    (Option.bind (HS.ldI S .i64 p4) fun p5 =>
    (Option.bind (D H y0 [(.int .i64 p5)] S) fun p6 =>
    (Option.bind (dB p6.1) fun p7 =>
    (if (!p7) = true then
    some ((), p6.2) else
    (L0 D H k n) y0 y5 y6 (w64 (y7 + 1)) p6.2))))) else
    some ((), S))
theorem L0_snd {D : Dp} {H : Hd} {k : Nat} (hD : DSound Try.prog base W0 D) (hH : HSound Try.prog base W0 β0 H)  : ∀ {n : Nat} ⦃y0 : HV⦄ ⦃y5 : Sl⦄ ⦃y6 : Int⦄ ⦃y7 : Int⦄ ⦃S : HS⦄ ⦃p : (Unit) × HS⦄ ⦃g1 g2 g3 g4 g8 g9 g10 g11 g12 g13 g14 g15 : HV⦄, L0 D H k n y0 y5 y6 y7 S = some p → HRun Try.prog base W0 β0 68 none [.inLoop c4, .inBlock 0] ⟨[y0, g1, g2, g3, g4, (Sl.hv y5), (.int .i64 y6), (.int .i64 y7), g8, g9, g10, g11, g12, g13, g14, g15], []⟩ S (fun v S1 => v = (.tup []) ∧ S1 = p.2) := by
  intro n
  induction n with
  | zero => intro _ _ _ _ _ _ _ _ _ _ _ _ _ _ _ _ _ _ h; cases h
  | succ n ih =>
    intro y0 y5 y6 y7 S p g1 g2 g3 g4 g8 g9 g10 g11 g12 g13 g14 g15 h
    simp only [L0] at h
    refine hr_inLoop ?_
    refine q_seq rfl ?_
    refine q_region rfl rfl ?_
    refine qS 8 rfl (ok_ibin · (.tmp rfl) (.tmp rfl) rfl) ?_
    refine hr_region_end ?_
    try dsimp only [w0, w1, w2, w3]
    refine q_seq rfl ?_
    rcases ifc h with ⟨hc3, h⟩ | ⟨hc3, h⟩
    · refine q_cond_t rfl (.tmp rfl) (decide_eq_true hc3) ?_
      refine q_skipc rfl ?_
      refine q_seq rfl ?_
      refine q_block rfl ?_
      refine q_seq rfl ?_
      refine q_region rfl rfl ?_
      obtain ⟨p4, hp4, h⟩ := bindo h
      refine qS 9 rfl (ok_indexAddr (s := y5) · tu43 sz3 (.tmp rfl) (.tmp rfl) hp4) ?_
      obtain ⟨p5, hp5, h⟩ := bindo h
      refine qS 10 rfl (ok_load_s · sc3 (.tmp rfl) rfl (ldI_out hp5)) ?_
      refine qS 4 rfl (ok_assign · (.tmp rfl)) ?_
      refine hr_region_end ?_
      try dsimp only [w0, w1, w2, w3]
      refine q_seq rfl ?_
      refine q_region rfl rfl ?_
      refine qS 11 rfl (ok_move · (.tmp rfl)) ?_
      refine qS 12 rfl (ok_move · (.tmp rfl)) ?_
      obtain ⟨p6, hp6, h⟩ := bindo h
      obtain ⟨p7, hp7, h⟩ := bindo h
      refine q_call (dst := some 13) rfl (.tmp rfl) (.cons (.tmp rfl) Evs.nil) (hD _ _ hH _ _ _ _ _ hp6) ?_
      rintro _ _ ⟨rfl, rfl⟩
      rw [dB_out hp7]
      refine qS 14 rfl (ok_not · (.tmp rfl)) ?_
      refine hr_region_end ?_
      try dsimp only [w0, w1, w2, w3]
      rcases ifc h with ⟨hc8, h⟩ | ⟨hc8, h⟩
      · refine q_cond_t rfl (.tmp rfl) hc8 ?_
        cases h
        exact q_ret rfl at_.at_ rfl (res0 rfl) ⟨rfl, rfl⟩
      · refine q_cond_f rfl (.tmp rfl) (bfalse hc8) ?_
        refine q_skipc rfl ?_
        refine hr_inBlock ?_
        refine q_region rfl rfl ?_
        refine qS 15 rfl (ok_ibin · (.tmp rfl) (.int _ _) rfl) ?_
        refine qS 7 rfl (ok_move · (.tmp rfl)) ?_
        refine hr_region_end ?_
        try dsimp only [w0, w1, w2, w3]
        try dsimp only [w0, w1, w2, w3]
        exact ih h
    · refine q_cond_f rfl (.tmp rfl) (decide_eq_false hc3) ?_
      refine q_exit rfl rfl ?_
      cases h
      exact q_end at_.at_ rfl (res0 rfl) ⟨rfl, rfl⟩
def f (D : Dp) (H : Hd) (k : Nat) (x0 : HV) (x1 : (Option HA)) (S : HS) : Option ((Unit) × HS) :=
  (Option.bind (x1) fun p1 =>
  (Option.bind (HS.ldSl S p1) fun p2 =>
  L0 D H k k x0 p2 (Sl.len p2 : Int) 0 S))
theorem snd {D : Dp} {H : Hd} {k : Nat} {x0 : HV} {x1 : (Option HA)} {S : HS} (hD : DSound Try.prog base W0 D) (hH : HSound Try.prog base W0 β0 H)  {p : (Unit) × HS} (h : f D H k x0 x1 S = some p) : HCall Try.prog base W0 β0 68 [x0, (.ptr x1)] S (fun v S1 => v = (.tup []) ∧ S1 = p.2) := by
  unfold f at h
  refine HCall.of_run at_.at_ body ?_
  show HRun Try.prog base W0 β0 68 none [.code c0] ⟨[x0, (.ptr x1), τ, τ, τ, τ, τ, τ, τ, τ, τ, τ, τ, τ, τ, τ], []⟩ S _
  refine q_seq rfl ?_
  refine q_region rfl rfl ?_
  obtain ⟨p1, hp1, h⟩ := bindo h
  obtain ⟨p2, hp2, h⟩ := bindo h
  refine qS 5 rfl (ok_load_s · sc43 (.tmp rfl) hp1 (ldSl_out hp2)) ?_
  refine qS 6 rfl (ok_len_sl (q := Sl.a p2) (n := Sl.len p2) (z := Sl.cap p2) · rfl tu43 (.tmp rfl)) ?_
  refine qS 7 rfl (ok_move · (.int _ _)) ?_
  refine hr_region_end ?_
  try dsimp only [w0, w1, w2, w3]
  refine q_block rfl ?_
  refine q_loop rfl ?_
  try dsimp only [w0, w1, w2, w3]
  exact L0_snd hD hH h
end
end slices_Values_int_int_1
namespace slices_Values_int_int
theorem at_ : FnAt Try.prog 57 Try.f57 := ⟨Try.func57, by kernel_rfl⟩
noncomputable def d0 := (Try.f57.body).getD .skip
noncomputable def r1 := kR (kA d0)
noncomputable def r3 := kR (kA (kB d0))
noncomputable def c0 : Code := .seq (.region 0 r1 false) (.seq (.region 1 r3 false) .ret)
theorem body : Try.f57.body = some c0 := by kernel_rfl
section
variable {base : Nat} {W0 : World} {β0 : Bt}
def f (x0 : Sl) (S : HS) : Option ((HV) × HS) :=
  (letv (HS.new S (.cells 1 [[(Sl.hv x0)]] true)) fun p1 =>
  some ((HV.fn (.func 68) [] [(.ptr (some (HA.cell0 S.next)))]), p1))
theorem snd {x0 : Sl} {S : HS}  {p : (HV) × HS} (h : f x0 S = some p) : HCall Try.prog base W0 β0 57 [(Sl.hv x0)] S (fun v S1 => v = p.1 ∧ S1 = p.2) := by
  unfold f at h
  refine HCall.of_run at_.at_ body ?_
  show HRun Try.prog base W0 β0 57 none [.code c0] ⟨[(Sl.hv x0), τ, τ, τ], []⟩ S _
  refine q_seq rfl ?_
  refine q_region rfl rfl ?_
  obtain ⟨p1, hp1, h⟩ := leto h
  refine qS 1 rfl (ok_box_e · (.tmp rfl) (Nat.zero_lt_succ _) rfl hp1) ?_
  refine qS 2 rfl (ok_assign · (.const fun _ => .nilFn)) ?_
  refine hr_region_end ?_
  try dsimp only [w0, w1, w2, w3]
  refine q_seq rfl ?_
  refine q_region rfl rfl ?_
  refine qS 3 rfl (ok_makeFunc · Evs.nil (.cons (.tmp rfl) Evs.nil)) ?_
  refine qS 2 rfl (ok_assign · (.tmp rfl)) ?_
  refine hr_region_end ?_
  try dsimp only [w0, w1, w2, w3]
  cases h
  exact q_ret rfl at_.at_ rfl (res1 rfl rfl) ⟨rfl, rfl⟩
end
end slices_Values_int_int
namespace set_Set_int_All
theorem at_ : FnAt Try.prog 43 Try.f43 := ⟨Try.func43, by kernel_rfl⟩
noncomputable def d0 := (Try.f43.body).getD .skip
noncomputable def r1 := kR (kA d0)
noncomputable def r3 := kR (kA (kB d0))
noncomputable def c0 : Code := .seq (.region 0 r1 false) (.seq (.region 1 r3 false) .ret)
theorem body : Try.f43.body = some c0 := by kernel_rfl
section
variable {base : Nat} {W0 : World} {β0 : Bt}
def f (x0 : (Option HA)) (S : HS) : Option ((HV) × HS) :=
  (Option.bind (set_Set_int_List.f x0 S) fun p1 =>
  (Option.bind (slices_Values_int_int.f p1.1 p1.2) fun p2 =>
  some (p2.1, p2.2)))
theorem snd {x0 : (Option HA)} {S : HS}  {p : (HV) × HS} (h : f x0 S = some p) : HCall Try.prog base W0 β0 43 [(.ptr x0)] S (fun v S1 => v = p.1 ∧ S1 = p.2) := by
  unfold f at h
  refine HCall.of_run at_.at_ body ?_
  show HRun Try.prog base W0 β0 43 none [.code c0] ⟨[(.ptr x0), τ, τ, τ, τ, τ], []⟩ S _
  refine q_seq rfl ?_
  refine q_region rfl rfl ?_
  refine qS 2 rfl (ok_assign · (.const fun _ => .nilFn)) ?_
  refine hr_region_end ?_
  try dsimp only [w0, w1, w2, w3]
  refine q_seq rfl ?_
  refine q_region rfl rfl ?_
  refine qS 3 rfl (ok_move · (.tmp rfl)) ?_
  obtain ⟨p1, hp1, h⟩ := bindo h
  refine q_call (dst := some 4) rfl (.func _) (.cons (.tmp rfl) Evs.nil) (HInv.static set_Set_int_List.at_ set_Set_int_List.body (set_Set_int_List.snd  hp1)) ?_
  rintro _ _ ⟨rfl, rfl⟩
  obtain ⟨p2, hp2, h⟩ := bindo h
  refine q_call (dst := some 5) rfl (.func _) (.cons (.tmp rfl) Evs.nil) (HInv.static slices_Values_int_int.at_ slices_Values_int_int.body (slices_Values_int_int.snd  hp2)) ?_
  rintro _ _ ⟨rfl, rfl⟩
  refine qS 2 rfl (ok_assign · (.tmp rfl)) ?_
  refine hr_region_end ?_
  try dsimp only [w0, w1, w2, w3]
  cases h
  exact q_ret rfl at_.at_ rfl (res1 rfl rfl) ⟨rfl, rfl⟩
end
end set_Set_int_All
namespace pair_Rel_int_string_By
theorem at_ : FnAt Try.prog 35 Try.f35 := ⟨Try.func35, by kernel_rfl⟩
noncomputable def d0 := (Try.f35.body).getD .skip
noncomputable def r1 := kR (kA d0)
noncomputable def r4 := kR (kA (kA (kB d0)))
noncomputable def r7 := kR (kA (kA (kB (kA (kB d0)))))
noncomputable def r11 := kR (kA (kB (kB d0)))
noncomputable def c0 : Code := .seq (.region 0 r1 false) (.seq (.seq (.region 1 r4 false) (.cond (.tmp 6) (.seq (.region 2 r7 false) .ret) .skip)) (.seq (.region 3 r11 false) .ret))
theorem body : Try.f35.body = some c0 := by kernel_rfl
section
variable {base : Nat} {W0 : World} {β0 : Bt}
def f (x0 : (Option HA)) (x1 : (List UInt8)) (S : HS) : Option ((HV) × HS) :=
  (if (Option.isNone x0) = true then
  some ((HV.fn (.func 54) [] []), S) else
  (Option.bind (x0) fun p2 =>
  (Option.bind (HS.ldM S (HA.fld p2 3)) fun p3 =>
  (Option.bind (HS.look S p3 (.str x1)) fun p4 =>
  (Option.bind (dP (Option.getD p4 (.ptr none))) fun p5 =>
  (Option.bind (set_Set_int_All.f p5 S) fun p6 =>
  some (p6.1, p6.2)))))))
theorem snd {x0 : (Option HA)} {x1 : (List UInt8)} {S : HS}  {p : (HV) × HS} (h : f x0 x1 S = some p) : HCall Try.prog base W0 β0 35 [(.ptr x0), (.str x1)] S (fun v S1 => v = p.1 ∧ S1 = p.2) := by
  unfold f at h
  refine HCall.of_run at_.at_ body ?_
  show HRun Try.prog base W0 β0 35 none [.code c0] ⟨[(.ptr x0), (.str x1), τ, τ, τ, τ, τ, τ, τ, τ, τ, τ, τ, τ], []⟩ S _
  refine q_seq rfl ?_
  refine q_region rfl rfl ?_
  refine qS 4 rfl (ok_assign · (.const fun _ => .nilFn)) ?_
  refine hr_region_end ?_
  try dsimp only [w0, w1, w2, w3]
  refine q_seq rfl ?_
  refine q_seq rfl ?_
  refine q_region rfl rfl ?_
  refine qS 5 rfl (ok_move · (.tmp rfl)) ?_
  refine qS 6 rfl (ok_nil_ptr · tu25 (.tmp rfl) (.inl ⟨rfl, rfl⟩)) ?_
  refine hr_region_end ?_
  try dsimp only [w0, w1, w2, w3]
  rcases ifc h with ⟨hc1, h⟩ | ⟨hc1, h⟩
  · refine q_cond_t rfl (.tmp rfl) hc1 ?_
    refine q_seq rfl ?_
    refine q_region rfl rfl ?_
    refine qS 4 rfl (ok_assign · (.func _)) ?_
    refine hr_region_end ?_
    try dsimp only [w0, w1, w2, w3]
    cases h
    exact q_ret rfl at_.at_ rfl (res1 rfl rfl) ⟨rfl, rfl⟩
  · refine q_cond_f rfl (.tmp rfl) (bfalse hc1) ?_
    refine q_skipc rfl ?_
    refine q_seq rfl ?_
    refine q_region rfl rfl ?_
    refine qS 7 rfl (ok_move · (.tmp rfl)) ?_
    obtain ⟨p2, hp2, h⟩ := bindo h
    refine qS 8 rfl (ok_nilCheck_p · (.tmp rfl) hp2) ?_
    refine qS 9 rfl (ok_fieldAddr_s · fi66_3 (by decide) (.tmp rfl) rfl) ?_
    obtain ⟨p3, hp3, h⟩ := bindo h
    refine qS 10 rfl (ok_load_s · sc64 (.tmp rfl) rfl (ldM_out hp3)) ?_
    try dsimp only [w0, w1, w2, w3]
    refine qS 11 rfl (ok_move · (.tmp rfl)) ?_
    obtain ⟨p4, hp4, h⟩ := bindo h
    obtain ⟨p5, hp5, h⟩ := bindo h
    refine qS 12 rfl (ok_lookup · tu64 zi83 (fun β => .ptrNil) (keyStr tu9) (.tmp rfl) (.tmp rfl) hp4 (dP_out hp5)) ?_
    obtain ⟨p6, hp6, h⟩ := bindo h
    refine q_call (dst := some 13) rfl (.func _) (.cons (.tmp rfl) Evs.nil) (HInv.static set_Set_int_All.at_ set_Set_int_All.body (set_Set_int_All.snd  hp6)) ?_
    rintro _ _ ⟨rfl, rfl⟩
    refine qS 4 rfl (ok_assign · (.tmp rfl)) ?_
    refine hr_region_end ?_
    try dsimp only [w0, w1, w2, w3]
    cases h
    exact q_ret rfl at_.at_ rfl (res1 rfl rfl) ⟨rfl, rfl⟩
end
end pair_Rel_int_string_By
namespace rollcalllaw11_lefts
theorem at_ : FnAt Try.prog 15 Try.f15 := ⟨Try.func15, by kernel_rfl⟩
noncomputable def d0 := (Try.f15.body).getD .skip
noncomputable def r1 := kR (kA d0)
noncomputable def r3 := kR (kA (kB d0))
noncomputable def r5 := kR (kA (kB (kB d0)))
noncomputable def d6 := kB (kB (kB d0))
noncomputable def r8 := kR (kA (kA d6))
noncomputable def r11 := kR (kA (kA (kB (kA d6))))
noncomputable def r16 := kR (kA (kA (kB d6)))
noncomputable def d17 := kB (kA (kB d6))
noncomputable def r19 := kR (kA (kA d17))
noncomputable def r23 := kR (kA (kA (kA (kB (kA d17)))))
noncomputable def r26 := kR (kA (kA (kB (kA (kA (kB (kA d17)))))))
noncomputable def r29 := kR (kB (kA (kB (kA d17))))
noncomputable def r31 := kR (kA (kB (kB d6)))
noncomputable def c20 : Code := .block 1 (.seq (.seq (.region 7 r23 false) (.cond (.tmp 21) (.seq (.region 8 r26 false) .ret) .skip)) (.region 9 r29 false))
noncomputable def c19 : Code := .region 6 r19 false
noncomputable def c0 : Code := .seq (.region 0 r1 false) (.seq (.region 1 r3 false) (.seq (.region 2 r5 false) (.seq (.seq (.region 3 r8 false) (.cond (.tmp 15) (.seq (.region 4 r11 false) .ret) .skip)) (.seq (.seq (.region 5 r16 false) (.block 0 (.rangeFunc (.tmp 16) #[17] c19 c20))) (.seq (.region 10 r31 false) .ret)))))
theorem body : Try.f15.body = some c0 := by kernel_rfl
section
variable {base : Nat} {W0 : World} {β0 : Bt}
def J0 (D : Dp) (H : Hd) (l : Nat) (y5 : (Option HA)) (y6 : (Option HA)) (y7 : (Option HA)) (y8 : (Option HA)) (y17 : Int) (S : HS) : Option (HV × HS) :=
  (Option.bind (HS.begin_ S l) fun p13 =>
  (Option.bind (y8) fun p14 =>
  (Option.bind (HS.ldSl p13 p14) fun p15 =>
  (Option.bind (y5) fun p16 =>
  (Option.bind (HS.ldI p13 .i64 p16) fun p17 =>
  (if (Sl.len p15 : Int) ≥ p17 then
  (Option.bind (y6) fun p19 =>
  (Option.bind (HS.sets p13 p19 [(Sl.hv Sl.nil)]) fun p20 =>
  (Option.bind (y7) fun p21 =>
  (Option.bind (HS.sets p20 p21 [(.bool false)]) fun p22 =>
  (HS.endr p22 l (some .ret)))))) else
  (Option.bind (y8) fun p23 =>
  (Option.bind (HS.ldSl p13 p23) fun p24 =>
  (letv (HS.lit p13 [[(.int .i64 y17)]] 1) fun p25 =>
  (Option.bind (HS.rows (p25.2) (p25.1) 1) fun p26 =>
  (Option.bind (HS.app (p25.2) p24 p26 1) fun p27 =>
  (Option.bind (y8) fun p28 =>
  (Option.bind (HS.sets (p27.2) p28 [(Sl.hv (p27.1))]) fun p29 =>
  (HS.endr p29 l none))))))))))))))
theorem J0_snd {D : Dp} {H : Hd} {l : Nat} (hD : DSound Try.prog base W0 D) (hH : HSound Try.prog base W0 β0 H)  {y5 : (Option HA)} {y6 : (Option HA)} {y7 : (Option HA)} {y8 : (Option HA)} {y17 : Int} {S : HS} {p : HV × HS} {g0 g1 g2 g3 g4 g9 g10 g11 g12 g13 g14 g15 g16 g18 g19 g20 g21 g22 g23 g24 g25 g26 : HV} (h : J0 D H l y5 y6 y7 y8 y17 S = some p) : HRun Try.prog base W0 β0 15 (some l) [.code c19, .beginRound, .code c20] ⟨[g0, g1, g2, g3, g4, (.ptr y5), (.ptr y6), (.ptr y7), (.ptr y8), g9, g10, g11, g12, g13, g14, g15, g16, (.int .i64 y17), g18, g19, g20, g21, g22, g23, g24, g25, g26], []⟩ S (fun v S1 => v = p.1 ∧ S1 = p.2) := by
  unfold J0 at h
  refine q_region rfl rfl ?_
  refine qS 10 rfl (ok_assign · (.tmp rfl)) ?_
  refine hr_region_end ?_
  try dsimp only [w0, w1, w2, w3]
  obtain ⟨p13, hp13, h⟩ := bindo h
  refine q_begin hp13 ?_
  refine q_block rfl ?_
  refine q_seq rfl ?_
  refine q_seq rfl ?_
  refine q_region rfl rfl ?_
  obtain ⟨p14, hp14, h⟩ := bindo h
  obtain ⟨p15, hp15, h⟩ := bindo h
  refine qS 18 rfl (ok_load_s · sc43 (.tmp rfl) hp14 (ldSl_out hp15)) ?_
  refine qS 19 rfl (ok_len_sl (q := Sl.a p15) (n := Sl.len p15) (z := Sl.cap p15) · rfl tu43 (.tmp rfl)) ?_
  obtain ⟨p16, hp16, h⟩ := bindo h
  obtain ⟨p17, hp17, h⟩ := bindo h
  refine qS 20 rfl (ok_load_s · sc3 (.tmp rfl) hp16 (ldI_out hp17)) ?_
  refine qS 21 rfl (ok_ibin · (.tmp rfl) (.tmp rfl) rfl) ?_
  refine hr_region_end ?_
  try dsimp only [w0, w1, w2, w3]
  rcases ifc h with ⟨hc18, h⟩ | ⟨hc18, h⟩
  · refine q_cond_t rfl (.tmp rfl) (decide_eq_true hc18) ?_
    refine q_seq rfl ?_
    refine q_region rfl rfl ?_
    obtain ⟨p19, hp19, h⟩ := bindo h
    obtain ⟨p20, hp20, h⟩ := bindo h
    refine qN rfl (ok_store_s (v := (Sl.hv Sl.nil)) · sz43 (.tmp rfl) hp19 (.const fun _ => .slNil none) rfl hp20) ?_
    obtain ⟨p21, hp21, h⟩ := bindo h
    obtain ⟨p22, hp22, h⟩ := bindo h
    refine qN rfl (ok_store_s (v := (.bool false)) · sz4 (.tmp rfl) hp21 (.bool _) rfl hp22) ?_
    refine hr_region_end ?_
    try dsimp only [w0, w1, w2, w3]
    exact q_round_ret rfl h ⟨rfl, rfl⟩
  · refine q_cond_f rfl (.tmp rfl) (decide_eq_false hc18) ?_
    refine q_skipc rfl ?_
    refine q_region rfl rfl ?_
    obtain ⟨p23, hp23, h⟩ := bindo h
    obtain ⟨p24, hp24, h⟩ := bindo h
    refine qS 22 rfl (ok_load_s · sc43 (.tmp rfl) hp23 (ldSl_out hp24)) ?_
    refine qS 23 rfl (ok_move · (.tmp rfl)) ?_
    obtain ⟨p25, hp25, h⟩ := leto h
    refine qS 24 rfl (ok_buildSlice_s (xs := [(.tmp 23)]) el43 · rfl rfl (by decide) (.cons (.tmp rfl) Evs.nil) rfl rfl hp25) ?_
    obtain ⟨p26, hp26, h⟩ := bindo h
    obtain ⟨p27, hp27, h⟩ := bindo h
    refine qS 25 rfl (ok_append (s := p24) (s1 := (p25.1)) el43 · rfl rfl ⟨_, tu43⟩ (.tmp rfl) (.tmp rfl) hp26 hp27) ?_
    try dsimp only [w0, w1, w2, w3]
    obtain ⟨p28, hp28, h⟩ := bindo h
    obtain ⟨p29, hp29, h⟩ := bindo h
    refine qN rfl (ok_store_s (v := (Sl.hv (p27.1))) · sz43 (.tmp rfl) hp28 (.tmp rfl) rfl hp29) ?_
    refine hr_region_end ?_
    try dsimp only [w0, w1, w2, w3]
    refine hr_inBlock ?_
    exact q_round_end h ⟨rfl, rfl⟩
def f (D : Dp) (H : Hd) (x0 : (Option HA)) (x1 : (List UInt8)) (x2 : Int) (S : HS) : Option ((Sl × Bool) × HS) :=
  (letv (HS.new S (.cells 1 [[(.int .i64 x2)]] true)) fun p1 =>
  (letv (HS.new p1 (.cells 1 [[(Sl.hv Sl.nil)]] true)) fun p2 =>
  (letv (HS.new p2 (.cells 1 [[(.bool false)]] true)) fun p3 =>
  (letv (HS.new p3 (.cells 1 [[(Sl.hv Sl.nil)]] true)) fun p4 =>
  (Option.bind (pair_Rel_int_string_By.f x0 x1 p4) fun p5 =>
  (Option.bind (HV.isNilFn p5.1) fun p6 =>
  (if (p6) = true then
  (Option.bind (HS.sets p5.2 (HA.cell0 p1.next) [(Sl.hv Sl.nil)]) fun p8 =>
  (Option.bind (HS.sets p8 (HA.cell0 p2.next) [(.bool false)]) fun p9 =>
  (Option.bind (HS.leave p9 []) fun p10 =>
  (Option.bind (HS.ldSl p10 (HA.cell0 p1.next)) fun p11 =>
  (Option.bind (HS.ldB p10 (HA.cell0 p2.next)) fun p12 =>
  some ((p11, p12), p10)))))) else
  (Option.bind (D (Hd.set H (HS.next p5.2 + 1) fun vs T =>
  (Option.bind (HS.lp T (HS.next p5.2 + 1)) fun u32 =>
  (Option.bind (args1 vs) fun ar30 =>
  (Option.bind (dI .i64 ar30) fun p31 =>
  (J0 D H (HS.next p5.2 + 1) (some (HA.cell0 S.next)) (some (HA.cell0 p1.next)) (some (HA.cell0 p2.next)) (some (HA.cell0 p3.next)) p31 T))))) p5.1 [.fn (.yield (HS.next p5.2 + 1)) [] []] (HS.new (HS.new p5.2 .defer) (.loop .ready none))) fun p33 =>
  (Option.bind (HS.finish p33.2 (HS.next p5.2 + 1)) fun p34 =>
  (Option.bind (pcode p34.1) fun n35 =>
  (if n35 = 0 then
  (Option.bind (HS.ldSl p34.2 (HA.cell0 p3.next)) fun p37 =>
  (Option.bind (HS.sets p34.2 (HA.cell0 p1.next) [(Sl.hv p37)]) fun p38 =>
  (Option.bind (HS.sets p38 (HA.cell0 p2.next) [(.bool true)]) fun p39 =>
  (Option.bind (HS.leave p39 (HS.next p5.2 :: [])) fun p40 =>
  (Option.bind (HS.ldSl p40 (HA.cell0 p1.next)) fun p41 =>
  (Option.bind (HS.ldB p40 (HA.cell0 p2.next)) fun p42 =>
  some ((p41, p42), p40))))))) else
  (if n35 = 1 then
  (Option.bind (HS.leave p34.2 (HS.next p5.2 :: [])) fun p44 =>
  (Option.bind (HS.ldSl p44 (HA.cell0 p1.next)) fun p45 =>
  (Option.bind (HS.ldB p44 (HA.cell0 p2.next)) fun p46 =>
  some ((p45, p46), p44)))) else
  none))))))))))))
theorem snd {D : Dp} {H : Hd} {x0 : (Option HA)} {x1 : (List UInt8)} {x2 : Int} {S : HS} (hD : DSound Try.prog base W0 D) (hH : HSound Try.prog base W0 β0 H)  {p : (Sl × Bool) × HS} (h : f D H x0 x1 x2 S = some p) : HCall Try.prog base W0 β0 15 [(.ptr x0), (.str x1), (.int .i64 x2)] S (fun v S1 => v = (.tup [(Sl.hv p.1.1), (.bool p.1.2)]) ∧ S1 = p.2) := by
  unfold f at h
  refine HCall.of_run at_.at_ body ?_
  show HRun Try.prog base W0 β0 15 none [.code c0] ⟨[(.ptr x0), (.str x1), (.int .i64 x2), τ, τ, τ, τ, τ, τ, τ, τ, τ, τ, τ, τ, τ, τ, τ, τ, τ, τ, τ, τ, τ, τ, τ, τ], []⟩ S _
  refine q_seq rfl ?_
  refine q_region rfl rfl ?_
  obtain ⟨p1, hp1, h⟩ := leto h
  refine qS 5 rfl (ok_box_e · (.tmp rfl) (Nat.zero_lt_succ _) rfl hp1) ?_
  obtain ⟨p2, hp2, h⟩ := leto h
  refine qS 6 rfl (ok_alloc_e · zi43 zr43 (by decide) rfl hp2) ?_
  obtain ⟨p3, hp3, h⟩ := leto h
  refine qS 7 rfl (ok_alloc_e · zi4 zr4 (by decide) rfl hp3) ?_
  refine hr_region_end ?_
  try dsimp only [w0, w1, w2, w3]
  refine q_seq rfl ?_
  refine q_region rfl rfl ?_
  obtain ⟨p4, hp4, h⟩ := leto h
  refine qS 8 rfl (ok_alloc_e · zi43 zr43 (by decide) rfl hp4) ?_
  refine hr_region_end ?_
  try dsimp only [w0, w1, w2, w3]
  refine q_seq rfl ?_
  refine q_region rfl rfl ?_
  refine qS 11 rfl (ok_move · (.tmp rfl)) ?_
  refine qS 12 rfl (ok_move · (.tmp rfl)) ?_
  obtain ⟨p5, hp5, h⟩ := bindo h
  refine q_call (dst := some 13) rfl (.func _) (.cons (.tmp rfl) (.cons (.tmp rfl) Evs.nil)) (HInv.static pair_Rel_int_string_By.at_ pair_Rel_int_string_By.body (pair_Rel_int_string_By.snd  hp5)) ?_
  rintro _ _ ⟨rfl, rfl⟩
  refine qS 9 rfl (ok_assign · (.tmp rfl)) ?_
  refine hr_region_end ?_
  try dsimp only [w0, w1, w2, w3]
  refine q_seq rfl ?_
  refine q_seq rfl ?_
  refine q_region rfl rfl ?_
  refine qS 14 rfl (ok_move · (.tmp rfl)) ?_
  obtain ⟨p6, hp6, h⟩ := bindo h
  refine qS 15 rfl (ok_nil_fn · tu59 (.tmp rfl) hp6 (.inl ⟨rfl, rfl⟩)) ?_
  refine hr_region_end ?_
  try dsimp only [w0, w1, w2, w3]
  rcases ifc h with ⟨hc7, h⟩ | ⟨hc7, h⟩
  · refine q_cond_t rfl (.tmp rfl) hc7 ?_
    refine q_seq rfl ?_
    refine q_region rfl rfl ?_
    obtain ⟨p8, hp8, h⟩ := bindo h
    refine qN rfl (ok_store_s (v := (Sl.hv Sl.nil)) · sz43 (.tmp rfl) rfl (.const fun _ => .slNil none) rfl hp8) ?_
    obtain ⟨p9, hp9, h⟩ := bindo h
    refine qN rfl (ok_store_s (v := (.bool false)) · sz4 (.tmp rfl) rfl (.bool _) rfl hp9) ?_
    refine hr_region_end ?_
    try dsimp only [w0, w1, w2, w3]
    obtain ⟨p10, hp10, h⟩ := bindo h
    obtain ⟨p11, hp11, h⟩ := bindo h
    obtain ⟨p12, hp12, h⟩ := bindo h
    cases h
    exact q_ret rfl at_.at_ hp10 (resL (rs := [.cell 6 43, .cell 7 4]) rfl (.cons (.cell rfl rfl sc43 (ldSl_out hp11)) (.cons (.cell rfl rfl sc4 (ldB_out hp12)) .nil)) (by simp)) ⟨rfl, rfl⟩
  · refine q_cond_f rfl (.tmp rfl) (bfalse hc7) ?_
    refine q_skipc rfl ?_
    refine q_seq rfl ?_
    refine q_seq rfl ?_
    refine q_region rfl rfl ?_
    refine qS 16 rfl (ok_move · (.tmp rfl)) ?_
    refine hr_region_end ?_
    try dsimp only [w0, w1, w2, w3]
    refine q_block rfl ?_
    obtain ⟨p33, hp33, h⟩ := bindo h
    obtain ⟨p34, hp34, h⟩ := bindo h
    obtain ⟨n35, hn35, h⟩ := bindo h
    refine q_range (D := D) (H := H) rfl (.tmp rfl) hD hH hp33 hp34 ?_ ?_
    · intro β1 hle hLA vs T u T' hr
      obtain ⟨u32, hu32, hr⟩ := bindo hr
      obtain ⟨ar30, har30, hr⟩ := bindo hr
      obtain ⟨p31, hp31, hr⟩ := bindo hr
      rw [args1_out har30]
      refine q_yield2 hLA hu32 rfl rfl ?_
      rw [dI_out hp31]
      simp only [HAct.params, List.set_cons_zero, List.set_cons_succ]
      exact J0_snd hD (hH.up hle) hr
    · rcases ifc h with ⟨hc36, h⟩ | ⟨hc36, h⟩
      · rw [pcode0 hn35 hc36]
        simp only [jumped_none, jumped_some]
        refine hr_inBlock ?_
        refine q_seq rfl ?_
        refine q_region rfl rfl ?_
        obtain ⟨p37, hp37, h⟩ := bindo h
        refine qS 26 rfl (ok_load_s · sc43 (.tmp rfl) rfl (ldSl_out hp37)) ?_
        obtain ⟨p38, hp38, h⟩ := bindo h
        refine qN rfl (ok_store_s (v := (Sl.hv p37)) · sz43 (.tmp rfl) rfl (.tmp rfl) rfl hp38) ?_
        obtain ⟨p39, hp39, h⟩ := bindo h
        refine qN rfl (ok_store_s (v := (.bool true)) · sz4 (.tmp rfl) rfl (.bool _) rfl hp39) ?_
        refine hr_region_end ?_
        try dsimp only [w0, w1, w2, w3]
        obtain ⟨p40, hp40, h⟩ := bindo h
        obtain ⟨p41, hp41, h⟩ := bindo h
        obtain ⟨p42, hp42, h⟩ := bindo h
        cases h
        exact q_ret rfl at_.at_ hp40 (resL (rs := [.cell 6 43, .cell 7 4]) rfl (.cons (.cell rfl rfl sc43 (ldSl_out hp41)) (.cons (.cell rfl rfl sc4 (ldB_out hp42)) .nil)) (by simp)) ⟨rfl, rfl⟩
      · rcases ifc h with ⟨hc43, h⟩ | ⟨hc43, h⟩
        · rw [pcode1 hn35 hc43]
          simp only [jumped_none, jumped_some]
          obtain ⟨p44, hp44, h⟩ := bindo h
          obtain ⟨p45, hp45, h⟩ := bindo h
          obtain ⟨p46, hp46, h⟩ := bindo h
          cases h
          exact q_ret rfl at_.at_ hp44 (resL (rs := [.cell 6 43, .cell 7 4]) rfl (.cons (.cell rfl rfl sc43 (ldSl_out hp45)) (.cons (.cell rfl rfl sc4 (ldB_out hp46)) .nil)) (by simp)) ⟨rfl, rfl⟩
        · cases h
end
end rollcalllaw11_lefts
namespace rollcallref10_Same
theorem at_ : FnAt Try.prog 22 Try.f22 := ⟨Try.func22, by kernel_rfl⟩
noncomputable def d0 := (Try.f22.body).getD .skip
noncomputable def r1 := kR (kA d0)
noncomputable def r4 := kR (kA (kA (kB d0)))
noncomputable def r7 := kR (kA (kA (kB (kA (kB d0)))))
noncomputable def d11 := kA (kB (kB d0))
noncomputable def r12 := kR (kA d11)
noncomputable def d15 := kA (kA (kB d11))
noncomputable def r17 := kR (kA (kA d15))
noncomputable def r24 := kR (kA (kA (kA (kB d15))))
noncomputable def r27 := kR (kA (kA (kB (kA (kA (kB d15))))))
noncomputable def r30 := kR (kB (kB d15))
noncomputable def r32 := kR (kA (kB (kB (kB d0))))
noncomputable def c31 : Code := .seq (.region 8 r32 false) .ret
noncomputable def c15 : Code := .seq (.seq (.region 4 r17 false) (.cond (.tmp 14) .skip (.exit 0))) (.seq (.block 1 (.seq (.region 6 r24 true) (.cond (.tmp 25) (.seq (.region 7 r27 false) .ret) .skip))) (.region 5 r30 false))
noncomputable def c0 : Code := .seq (.region 0 r1 false) (.seq (.seq (.region 1 r4 false) (.cond (.tmp 10) (.seq (.region 2 r7 false) .ret) .skip)) (.seq (.seq (.region 3 r12 false) (.block 0 (.loop c15))) c31))
theorem body : Try.f22.body = some c0 := by kernel_rfl
section
variable {base : Nat} {W0 : World} {β0 : Bt}
def L0 (k : Nat) : Nat → Sl → Sl → Int → HS → Option ((Bool) × HS)
  | 0, _, _, _, _ => none
  | n + 1, y0, y1, y5, S =>
    (if y5 < (Sl.len y0 : Int) then
    (Option.bind (HS.idx S y0 y5 1) fun p3 =>
    (Option.bind (HS.ldI S .i64 p3) fun p4 =>
    (Option.bind (HS.idx S y1 y5 1) fun p5 =>
    (Option.bind (HS.ldI S .i64 p5) fun p6 =>
    (if (!decide (p4 = p6)) = true then
    some (false, S) else
    (L0 k n) y0 y1 (w64 (y5 + 1)) S))))) else
    some (true, S))
theorem L0_snd {k : Nat}  : ∀ {n : Nat} ⦃y0 : Sl⦄ ⦃y1 : Sl⦄ ⦃y5 : Int⦄ ⦃S : HS⦄ ⦃p : (Bool) × HS⦄ ⦃g2 g3 g4 g6 g7 g8 g9 g10 g11 g12 g13 g14 g15 g16 g17 g18 g19 g20 g21 g22 g23 g24 g25 : HV⦄, L0 k n y0 y1 y5 S = some p → HRun Try.prog base W0 β0 22 none [.inLoop c15, .inBlock 0, .code c31] ⟨[(Sl.hv y0), (Sl.hv y1), g2, g3, g4, (.int .i64 y5), g6, g7, g8, g9, g10, g11, g12, g13, g14, g15, g16, g17, g18, g19, g20, g21, g22, g23, g24, g25], []⟩ S (fun v S1 => v = (.bool p.1) ∧ S1 = p.2) := by
  intro n
  induction n with
  | zero => intro _ _ _ _ _ _ _ _ _ _ _ _ _ _ _ _ _ _ _ _ _ _ _ _ _ _ _ _ h; cases h
  | succ n ih =>
    intro y0 y1 y5 S p g2 g3 g4 g6 g7 g8 g9 g10 g11 g12 g13 g14 g15 g16 g17 g18 g19 g20 g21 g22 g23 g24 g25 h
    simp only [L0] at h
    refine hr_inLoop ?_
    refine q_seq rfl ?_
    refine q_seq rfl ?_
    refine q_region rfl rfl ?_
    refine qS 11 rfl (ok_move · (.tmp rfl)) ?_
    refine qS 12 rfl (ok_move · (.tmp rfl)) ?_
    refine qS 13 rfl (ok_len_sl (q := Sl.a y0) (n := Sl.len y0) (z := Sl.cap y0) · rfl tu43 (.tmp rfl)) ?_
    refine qS 14 rfl (ok_ibin · (.tmp rfl) (.tmp rfl) rfl) ?_
    refine hr_region_end ?_
    try dsimp only [w0, w1, w2, w3]
    rcases ifc h with ⟨hc2, h⟩ | ⟨hc2, h⟩
    · refine q_cond_t rfl (.tmp rfl) (decide_eq_true hc2) ?_
      refine q_skipc rfl ?_
      refine q_seq rfl ?_
      refine q_block rfl ?_
      refine q_seq rfl ?_
      refine x_start (cls := [0, 0, 1, 1, 0, 0, 1, 1, 0]) (rk := [0, 1, 2, 3, 4, 5, 6, 7, 8]) rfl (by kernel_rfl) ?_
      refine yf 17 [0] rfl (ok_move · (.tmp rfl)) ?_
      refine yf 18 [5] rfl (ok_move · (.tmp rfl)) ?_
      obtain ⟨p3, hp3, h⟩ := bindo h
      refine yr 19 [17, 18] rfl (ok_indexAddr (s := y0) · tu43 sz3 (.tmp rfl) (.tmp rfl) hp3) ?_
      obtain ⟨p4, hp4, h⟩ := bindo h
      refine yr 20 [19] rfl (ok_load_s · sc3 (.tmp rfl) rfl (ldI_out hp4)) ?_
      try dsimp only [w0, w1, w2, w3]
      refine yf 21 [1] rfl (ok_move · (.tmp rfl)) ?_
      refine yf 22 [5] rfl (ok_move · (.tmp rfl)) ?_
      obtain ⟨p5, hp5, h⟩ := bindo h
      refine yr 23 [21, 22] rfl (ok_indexAddr (s := y1) · tu43 sz3 (.tmp rfl) (.tmp rfl) hp5) ?_
      obtain ⟨p6, hp6, h⟩ := bindo h
      refine yr 24 [23] rfl (ok_load_s · sc3 (.tmp rfl) rfl (ldI_out hp6)) ?_
      try dsimp only [w0, w1, w2, w3]
      refine yf 25 [20, 24] rfl (ok_ibin · (.tmp rfl) (.tmp rfl) rfl) ?_
      refine x_rest rfl ?_
      refine hr_region_end ?_
      try dsimp only [w0, w1, w2, w3]
      rcases ifc h with ⟨hc7, h⟩ | ⟨hc7, h⟩
      · refine q_cond_t rfl (.tmp rfl) hc7 ?_
        refine q_seq rfl ?_
        refine q_region rfl rfl ?_
        refine qS 4 rfl (ok_assign · (.bool _)) ?_
        refine hr_region_end ?_
        try dsimp only [w0, w1, w2, w3]
        cases h
        exact q_ret rfl at_.at_ rfl (res1 rfl rfl) ⟨rfl, rfl⟩
      · refine q_cond_f rfl (.tmp rfl) (bfalse hc7) ?_
        refine q_skipc rfl ?_
        refine hr_inBlock ?_
        refine q_region rfl rfl ?_
        refine qS 15 rfl (ok_move · (.tmp rfl)) ?_
        refine qS 16 rfl (ok_ibin · (.tmp rfl) (.int _ _) rfl) ?_
        refine qS 5 rfl (ok_assign · (.tmp rfl)) ?_
        refine hr_region_end ?_
        try dsimp only [w0, w1, w2, w3]
        try dsimp only [w0, w1, w2, w3]
        exact ih h
    · refine q_cond_f rfl (.tmp rfl) (decide_eq_false hc2) ?_
      refine q_exit rfl rfl ?_
      refine q_seq rfl ?_
      refine q_region rfl rfl ?_
      refine qS 4 rfl (ok_assign · (.bool _)) ?_
      refine hr_region_end ?_
      try dsimp only [w0, w1, w2, w3]
      cases h
      exact q_ret rfl at_.at_ rfl (res1 rfl rfl) ⟨rfl, rfl⟩
def f (k : Nat) (x0 : Sl) (x1 : Sl) (S : HS) : Option ((Bool) × HS) :=
  (if (!decide ((Sl.len x0 : Int) = (Sl.len x1 : Int))) = true then
  some (false, S) else
  L0 k k x0 x1 0 S)
theorem snd {k : Nat} {x0 : Sl} {x1 : Sl} {S : HS}  {p : (Bool) × HS} (h : f k x0 x1 S = some p) : HCall Try.prog base W0 β0 22 [(Sl.hv x0), (Sl.hv x1)] S (fun v S1 => v = (.bool p.1) ∧ S1 = p.2) := by
  unfold f at h
  refine HCall.of_run at_.at_ body ?_
  show HRun Try.prog base W0 β0 22 none [.code c0] ⟨[(Sl.hv x0), (Sl.hv x1), τ, τ, τ, τ, τ, τ, τ, τ, τ, τ, τ, τ, τ, τ, τ, τ, τ, τ, τ, τ, τ, τ, τ, τ], []⟩ S _
  refine q_seq rfl ?_
  refine q_region rfl rfl ?_
  refine qS 4 rfl (ok_assign · (.bool _)) ?_
  refine hr_region_end ?_
  try dsimp only [w0, w1, w2, w3]
  refine q_seq rfl ?_
  refine q_seq rfl ?_
  refine q_region rfl rfl ?_
  refine qS 6 rfl (ok_move · (.tmp rfl)) ?_
  refine qS 7 rfl (ok_len_sl (q := Sl.a x0) (n := Sl.len x0) (z := Sl.cap x0) · rfl tu43 (.tmp rfl)) ?_
  refine qS 8 rfl (ok_move · (.tmp rfl)) ?_
  refine qS 9 rfl (ok_len_sl (q := Sl.a x1) (n := Sl.len x1) (z := Sl.cap x1) · rfl tu43 (.tmp rfl)) ?_
  try dsimp only [w0, w1, w2, w3]
  refine qS 10 rfl (ok_ibin · (.tmp rfl) (.tmp rfl) rfl) ?_
  refine hr_region_end ?_
  try dsimp only [w0, w1, w2, w3]
  rcases ifc h with ⟨hc1, h⟩ | ⟨hc1, h⟩
  · refine q_cond_t rfl (.tmp rfl) hc1 ?_
    refine q_seq rfl ?_
    refine q_region rfl rfl ?_
    refine qS 4 rfl (ok_assign · (.bool _)) ?_
    refine hr_region_end ?_
    try dsimp only [w0, w1, w2, w3]
    cases h
    exact q_ret rfl at_.at_ rfl (res1 rfl rfl) ⟨rfl, rfl⟩
  · refine q_cond_f rfl (.tmp rfl) (bfalse hc1) ?_
    refine q_skipc rfl ?_
    refine q_seq rfl ?_
    refine q_seq rfl ?_
    refine q_region rfl rfl ?_
    refine qS 5 rfl (ok_assign · (.int _ _)) ?_
    refine hr_region_end ?_
    try dsimp only [w0, w1, w2, w3]
    refine q_block rfl ?_
    refine q_loop rfl ?_
    try dsimp only [w0, w1, w2, w3]
    exact L0_snd  h
end
end rollcallref10_Same
namespace rollcalllaw11_awake
theorem at_ : FnAt Try.prog 6 Try.f6 := ⟨Try.func6, by kernel_rfl⟩
noncomputable def d0 := (Try.f6.body).getD .skip
noncomputable def r1 := kR (kA d0)
noncomputable def r3 := kR (kA (kB d0))
noncomputable def r6 := kR (kA (kA (kB (kB d0))))
noncomputable def r9 := kR (kA (kA (kB (kA (kB (kB d0))))))
noncomputable def r13 := kR (kA (kB (kB (kB d0))))
noncomputable def r15 := kR (kA (kB (kB (kB (kB d0)))))
noncomputable def c16 : Code := .ret
noncomputable def c12 : Code := .seq (.region 4 r13 false) (.seq (.region 5 r15 false) c16)
noncomputable def c7 : Code := .cond (.tmp 25) (.seq (.region 3 r9 false) .ret) .skip
noncomputable def c0 : Code := .seq (.region 0 r1 false) (.seq (.region 1 r3 false) (.seq (.seq (.region 2 r6 false) c7) c12))
theorem body : Try.f6.body = some c0 := by kernel_rfl
section
variable {base : Nat} {W0 : World} {β0 : Bt}
def J3 (D : Dp) (H : Hd) (k : Nat) (y36 : Bool) (S : HS) : Option ((Bool) × HS) :=
  some (y36, S)
theorem J3_snd {D : Dp} {H : Hd} {k : Nat} (hD : DSound Try.prog base W0 D) (hH : HSound Try.prog base W0 β0 H)  {y36 : Bool} {S : HS} {p : (Bool) × HS} {g0 g1 g2 g3 g4 g5 g6 g7 g8 g9 g10 g11 g12 g13 g14 g15 g16 g17 g18 g19 g20 g21 g22 g23 g24 g25 g26 g27 g28 g29 g30 g31 g32 g33 g34 g35 : HV} (h : J3 D H k y36 S = some p) : HRun Try.prog base W0 β0 6 none [.inRegion r15 [6], .code c16] ⟨[g0, g1, g2, g3, g4, g5, g6, g7, g8, g9, g10, g11, g12, g13, g14, g15, g16, g17, g18, g19, g20, g21, g22, g23, g24, g25, g26, g27, g28, g29, g30, g31, g32, g33, g34, g35, (.bool y36)], []⟩ S (fun v S1 => v = (.bool p.1) ∧ S1 = p.2) := by
  unfold J3 at h
  refine qS 0 rfl (ok_assign · (.tmp rfl)) ?_
  refine hr_region_end ?_
  try dsimp only [w0, w1, w2, w3]
  cases h
  exact q_ret rfl at_.at_ rfl (res1 rfl rfl) ⟨rfl, rfl⟩
def J2 (D : Dp) (H : Hd) (k : Nat) (y1 : (Option HA)) (y25 : Bool) (S : HS) : Option ((Bool) × HS) :=
  (if y25 = true then
  some (false, S) else
  (Option.bind (rollcalllaw11_lefts.f D H y1 ([98] : List UInt8) 9 S) fun p6 =>
  (if p6.1.2 = true then
  (letv (HS.lit p6.2 [[(.int .i64 1)], [(.int .i64 2)]] 1) fun p8 =>
  (Option.bind (rollcallref10_Same.f k p6.1.1 (p8.1) (p8.2)) fun p9 =>
  J3 D H k p9.1 p9.2)) else
  J3 D H k false p6.2)))
theorem J2_snd {D : Dp} {H : Hd} {k : Nat} (hD : DSound Try.prog base W0 D) (hH : HSound Try.prog base W0 β0 H)  {y1 : (Option HA)} {y25 : Bool} {S : HS} {p : (Bool) × HS} {g0 g2 g3 g4 g5 g6 g7 g8 g9 g10 g11 g12 g13 g14 g15 g16 g17 g18 g19 g20 g21 g22 g23 g24 g26 g27 g28 g29 g30 g31 g32 g33 g34 g35 g36 : HV} (h : J2 D H k y1 y25 S = some p) : HRun Try.prog base W0 β0 6 none [.code c7, .code c12] ⟨[g0, (.ptr y1), g2, g3, g4, g5, g6, g7, g8, g9, g10, g11, g12, g13, g14, g15, g16, g17, g18, g19, g20, g21, g22, g23, g24, (.bool y25), g26, g27, g28, g29, g30, g31, g32, g33, g34, g35, g36], []⟩ S (fun v S1 => v = (.bool p.1) ∧ S1 = p.2) := by
  unfold J2 at h
  rcases ifc h with ⟨hc5, h⟩ | ⟨hc5, h⟩
  · refine q_cond_t rfl (.tmp rfl) hc5 ?_
    refine q_seq rfl ?_
    refine q_region rfl rfl ?_
    refine qS 0 rfl (ok_assign · (.bool _)) ?_
    refine hr_region_end ?_
    try dsimp only [w0, w1, w2, w3]
    cases h
    exact q_ret rfl at_.at_ rfl (res1 rfl rfl) ⟨rfl, rfl⟩
  · refine q_cond_f rfl (.tmp rfl) (bfalse hc5) ?_
    refine q_skipc rfl ?_
    refine q_seq rfl ?_
    refine q_region rfl rfl ?_
    refine qS 27 rfl (ok_move · (.tmp rfl)) ?_
    obtain ⟨p6, hp6, h⟩ := bindo h
    refine q_call (dst := some 28) rfl (.func _) (.cons (.tmp rfl) (.cons (.str _) (.cons (.int _ _) Evs.nil))) (HInv.static rollcalllaw11_lefts.at_ rollcalllaw11_lefts.body (rollcalllaw11_lefts.snd hD hH hp6)) ?_
    rintro _ _ ⟨rfl, rfl⟩
    refine qS 26 rfl (ok_move · (.tmp rfl)) ?_
    refine qS 29 rfl (ok_extract · (.tmp rfl) rfl) ?_
    try dsimp only [w0, w1, w2, w3]
    refine qS 30 rfl (ok_extract · (.tmp rfl) rfl) ?_
    refine qS 3 rfl (ok_assign · (.tmp rfl)) ?_
    refine qS 4 rfl (ok_assign · (.tmp rfl)) ?_
    refine hr_region_end ?_
    try dsimp only [w0, w1, w2, w3]
    refine q_seq rfl ?_
    refine q_region rfl rfl ?_
    refine qS 31 rfl (ok_move · (.tmp rfl)) ?_
    refine qS 32 rfl (ok_move · (.tmp rfl)) ?_
    rcases ifc h with ⟨hc7, h⟩ | ⟨hc7, h⟩
    · refine qG 32 33 rfl hc7 (ok_move · (.tmp rfl)) ?_
      obtain ⟨p8, hp8, h⟩ := leto h
      refine qG 32 34 rfl hc7 (ok_buildSlice_s (xs := [(.const (.int .i64 1)), (.const (.int .i64 2))]) el43 · rfl rfl (by decide) (.cons (.int _ _) (.cons (.int _ _) Evs.nil)) rfl rfl hp8) ?_
      try dsimp only [w0, w1, w2, w3]
      obtain ⟨p9, hp9, h⟩ := bindo h
      refine q_call_g (t := 32) (dst := some 35) rfl rfl rfl hc7 (.func _) (.cons (.tmp rfl) (.cons (.tmp rfl) Evs.nil)) (HInv.static rollcallref10_Same.at_ rollcallref10_Same.body (rollcallref10_Same.snd  hp9)) ?_
      rintro _ _ ⟨rfl, rfl⟩
      refine qS 36 rfl (ok_pick_tt · (.tmp rfl) hc7 (.tmp rfl)) ?_
      try dsimp only [w0, w1, w2, w3]
      exact J3_snd hD hH h
    · refine q_skip (dst := some 33) (t := 32) rfl rfl rfl (bfalse hc7) ?_
      refine q_skip (dst := some 34) (t := 32) rfl rfl rfl (bfalse hc7) ?_
      try dsimp only [w0, w1, w2, w3]
      refine q_skip (dst := some 35) (t := 32) rfl rfl rfl (bfalse hc7) ?_
      refine qS 36 rfl (ok_pick_ff · (.tmp rfl) (bfalse hc7) (.bool _)) ?_
      try dsimp only [w0, w1, w2, w3]
      exact J3_snd hD hH h
def J1 (D : Dp) (H : Hd) (k : Nat) (y1 : (Option HA)) (y20 : Bool) (S : HS) : Option ((Bool) × HS) :=
  (if y20 = true then
  J2 D H k y1 true S else
  (Option.bind (pair_Rel_int_string_Add.f k y1 1 ([98] : List UInt8) S) fun p10 =>
  J2 D H k y1 (!decide (p10.1 = 0)) p10.2))
theorem J1_snd {D : Dp} {H : Hd} {k : Nat} (hD : DSound Try.prog base W0 D) (hH : HSound Try.prog base W0 β0 H)  {y1 : (Option HA)} {y20 : Bool} {S : HS} {p : (Bool) × HS} {g0 g2 g3 g4 g5 g6 g7 g8 g9 g10 g11 g12 g13 g14 g15 g16 g17 g18 g19 g21 g22 g23 g24 g25 g26 g27 g28 g29 g30 g31 g32 g33 g34 g35 g36 : HV} (h : J1 D H k y1 y20 S = some p) : HRun Try.prog base W0 β0 6 none [.inRegion r6 [12, 13, 14, 15, 16], .code c7, .code c12] ⟨[g0, (.ptr y1), g2, g3, g4, g5, g6, g7, g8, g9, g10, g11, g12, g13, g14, g15, g16, g17, g18, g19, (.bool y20), g21, g22, g23, g24, g25, g26, g27, g28, g29, g30, g31, g32, g33, g34, g35, g36], []⟩ S (fun v S1 => v = (.bool p.1) ∧ S1 = p.2) := by
  unfold J1 at h
  refine qS 21 rfl (ok_move · (.tmp rfl)) ?_
  rcases ifc h with ⟨hc4, h⟩ | ⟨hc4, h⟩
  · refine q_skip (dst := some 22) (t := 21) rfl rfl rfl hc4 ?_
    refine q_skip (dst := some 23) (t := 21) rfl rfl rfl hc4 ?_
    refine q_skip (dst := some 24) (t := 21) rfl rfl rfl hc4 ?_
    try dsimp only [w0, w1, w2, w3]
    refine qS 25 rfl (ok_pick_tt · (.tmp rfl) hc4 (.bool _)) ?_
    refine hr_region_end ?_
    try dsimp only [w0, w1, w2, w3]
    try dsimp only [w0, w1, w2, w3]
    exact J2_snd hD hH h
  · refine qG 21 22 rfl (bfalse hc4) (ok_move · (.tmp rfl)) ?_
    obtain ⟨p10, hp10, h⟩ := bindo h
    refine q_call_g (t := 21) (dst := some 23) rfl rfl rfl (bfalse hc4) (.func _) (.cons (.tmp rfl) (.cons (.int _ _) (.cons (.str _) Evs.nil))) (HInv.static pair_Rel_int_string_Add.at_ pair_Rel_int_string_Add.body (pair_Rel_int_string_Add.snd  hp10)) ?_
    rintro _ _ ⟨rfl, rfl⟩
    refine qG 21 24 rfl (bfalse hc4) (ok_ibin · (.tmp rfl) (.int _ _) rfl) ?_
    try dsimp only [w0, w1, w2, w3]
    refine qS 25 rfl (ok_pick_ff · (.tmp rfl) (bfalse hc4) (.tmp rfl)) ?_
    refine hr_region_end ?_
    try dsimp only [w0, w1, w2, w3]
    try dsimp only [w0, w1, w2, w3]
    exact J2_snd hD hH h
def J0 (D : Dp) (H : Hd) (k : Nat) (y1 : (Option HA)) (y15 : Bool) (S : HS) : Option ((Bool) × HS) :=
  (if y15 = true then
  J1 D H k y1 true S else
  (Option.bind (pair_Rel_int_string_Add.f k y1 2 ([98] : List UInt8) S) fun p11 =>
  J1 D H k y1 (!decide (p11.1 = 0)) p11.2))
theorem J0_snd {D : Dp} {H : Hd} {k : Nat} (hD : DSound Try.prog base W0 D) (hH : HSound Try.prog base W0 β0 H)  {y1 : (Option HA)} {y15 : Bool} {S : HS} {p : (Bool) × HS} {g0 g2 g3 g4 g5 g6 g7 g8 g9 g10 g11 g12 g13 g14 g16 g17 g18 g19 g20 g21 g22 g23 g24 g25 g26 g27 g28 g29 g30 g31 g32 g33 g34 g35 g36 : HV} (h : J0 D H k y1 y15 S = some p) : HRun Try.prog base W0 β0 6 none [.inRegion r6 [7, 8, 9, 10, 11, 12, 13, 14, 15, 16], .code c7, .code c12] ⟨[g0, (.ptr y1), g2, g3, g4, g5, g6, g7, g8, g9, g10, g11, g12, g13, g14, (.bool y15), g16, g17, g18, g19, g20, g21, g22, g23, g24, g25, g26, g27, g28, g29, g30, g31, g32, g33, g34, g35, g36], []⟩ S (fun v S1 => v = (.bool p.1) ∧ S1 = p.2) := by
  unfold J0 at h
  refine qS 16 rfl (ok_move · (.tmp rfl)) ?_
  try dsimp only [w0, w1, w2, w3]
  rcases ifc h with ⟨hc3, h⟩ | ⟨hc3, h⟩
  · refine q_skip (dst := some 17) (t := 16) rfl rfl rfl hc3 ?_
    refine q_skip (dst := some 18) (t := 16) rfl rfl rfl hc3 ?_
    refine q_skip (dst := some 19) (t := 16) rfl rfl rfl hc3 ?_
    refine qS 20 rfl (ok_pick_tt · (.tmp rfl) hc3 (.bool _)) ?_
    try dsimp only [w0, w1, w2, w3]
    try dsimp only [w0, w1, w2, w3]
    exact J1_snd hD hH h
  · refine qG 16 17 rfl (bfalse hc3) (ok_move · (.tmp rfl)) ?_
    obtain ⟨p11, hp11, h⟩ := bindo h
    refine q_call_g (t := 16) (dst := some 18) rfl rfl rfl (bfalse hc3) (.func _) (.cons (.tmp rfl) (.cons (.int _ _) (.cons (.str _) Evs.nil))) (HInv.static pair_Rel_int_string_Add.at_ pair_Rel_int_string_Add.body (pair_Rel_int_string_Add.snd  hp11)) ?_
    rintro _ _ ⟨rfl, rfl⟩
    refine qG 16 19 rfl (bfalse hc3) (ok_ibin · (.tmp rfl) (.int _ _) rfl) ?_
    refine qS 20 rfl (ok_pick_ff · (.tmp rfl) (bfalse hc3) (.tmp rfl)) ?_
    try dsimp only [w0, w1, w2, w3]
    try dsimp only [w0, w1, w2, w3]
    exact J1_snd hD hH h
def f (D : Dp) (H : Hd) (k : Nat) (S : HS) : Option ((Bool) × HS) :=
  (Option.bind (pair_New_int_string.f 5 S) fun p1 =>
  (if (!decide (p1.1.2 = 0)) = true then
  J0 D H k p1.1.1 true p1.2 else
  (Option.bind (pair_Rel_int_string_Add.f k p1.1.1 1 ([97] : List UInt8) p1.2) fun p12 =>
  J0 D H k p1.1.1 (!decide (p12.1 = 0)) p12.2)))
theorem snd {D : Dp} {H : Hd} {k : Nat} {S : HS} (hD : DSound Try.prog base W0 D) (hH : HSound Try.prog base W0 β0 H)  {p : (Bool) × HS} (h : f D H k S = some p) : HCall Try.prog base W0 β0 6 [] S (fun v S1 => v = (.bool p.1) ∧ S1 = p.2) := by
  unfold f at h
  refine HCall.of_run at_.at_ body ?_
  show HRun Try.prog base W0 β0 6 none [.code c0] ⟨[τ, τ, τ, τ, τ, τ, τ, τ, τ, τ, τ, τ, τ, τ, τ, τ, τ, τ, τ, τ, τ, τ, τ, τ, τ, τ, τ, τ, τ, τ, τ, τ, τ, τ, τ, τ, τ], []⟩ S _
  refine q_seq rfl ?_
  refine q_region rfl rfl ?_
  refine qS 0 rfl (ok_assign · (.bool _)) ?_
  refine hr_region_end ?_
  try dsimp only [w0, w1, w2, w3]
  refine q_seq rfl ?_
  refine q_region rfl rfl ?_
  obtain ⟨p1, hp1, h⟩ := bindo h
  refine q_call (dst := some 6) rfl (.func _) (.cons (.int _ _) Evs.nil) (HInv.static pair_New_int_string.at_ pair_New_int_string.body (pair_New_int_string.snd  hp1)) ?_
  rintro _ _ ⟨rfl, rfl⟩
  refine qS 5 rfl (ok_move · (.tmp rfl)) ?_
  refine qS 7 rfl (ok_extract · (.tmp rfl) rfl) ?_
  refine qS 8 rfl (ok_extract · (.tmp rfl) rfl) ?_
  try dsimp only [w0, w1, w2, w3]
  refine qS 1 rfl (ok_assign · (.tmp rfl)) ?_
  refine qS 2 rfl (ok_assign · (.tmp rfl)) ?_
  refine hr_region_end ?_
  try dsimp only [w0, w1, w2, w3]
  refine q_seq rfl ?_
  refine q_seq rfl ?_
  refine q_region rfl rfl ?_
  refine qS 9 rfl (ok_move · (.tmp rfl)) ?_
  refine qS 10 rfl (ok_ibin · (.tmp rfl) (.int _ _) rfl) ?_
  refine qS 11 rfl (ok_move · (.tmp rfl)) ?_
  rcases ifc h with ⟨hc2, h⟩ | ⟨hc2, h⟩
  · refine q_skip (dst := some 12) (t := 11) rfl rfl rfl hc2 ?_
    try dsimp only [w0, w1, w2, w3]
    refine q_skip (dst := some 13) (t := 11) rfl rfl rfl hc2 ?_
    refine q_skip (dst := some 14) (t := 11) rfl rfl rfl hc2 ?_
    refine qS 15 rfl (ok_pick_tt · (.tmp rfl) hc2 (.bool _)) ?_
    try dsimp only [w0, w1, w2, w3]
    exact J0_snd hD hH h
  · refine qG 11 12 rfl (bfalse hc2) (ok_move · (.tmp rfl)) ?_
    try dsimp only [w0, w1, w2, w3]
    obtain ⟨p12, hp12, h⟩ := bindo h
    refine q_call_g (t := 11) (dst := some 13) rfl rfl rfl (bfalse hc2) (.func _) (.cons (.tmp rfl) (.cons (.int _ _) (.cons (.str _) Evs.nil))) (HInv.static pair_Rel_int_string_Add.at_ pair_Rel_int_string_Add.body (pair_Rel_int_string_Add.snd  hp12)) ?_
    rintro _ _ ⟨rfl, rfl⟩
    refine qG 11 14 rfl (bfalse hc2) (ok_ibin · (.tmp rfl) (.int _ _) rfl) ?_
    refine qS 15 rfl (ok_pick_ff · (.tmp rfl) (bfalse hc2) (.tmp rfl)) ?_
    try dsimp only [w0, w1, w2, w3]
    exact J0_snd hD hH h
end
end rollcalllaw11_awake
namespace pair_New_int_int
theorem at_ : FnAt Try.prog 25 Try.f25 := ⟨Try.func25, by kernel_rfl⟩
noncomputable def d0 := (Try.f25.body).getD .skip
noncomputable def r1 := kR (kA d0)
noncomputable def r4 := kR (kA (kA (kB d0)))
noncomputable def r7 := kR (kA (kA (kB (kA (kB d0)))))
noncomputable def r11 := kR (kA (kB (kB d0)))
noncomputable def c10 : Code := .seq (.region 3 r11 false) .ret
noncomputable def c5 : Code := .cond (.tmp 9) (.seq (.region 2 r7 false) .ret) .skip
noncomputable def c0 : Code := .seq (.region 0 r1 false) (.seq (.seq (.region 1 r4 false) c5) c10)
theorem body : Try.f25.body = some c0 := by kernel_rfl
section
variable {base : Nat} {W0 : World} {β0 : Bt}
def J0  (y0 : Int) (y9 : Bool) (S : HS) : Option (((Option HA) × Int) × HS) :=
  (if y9 = true then
  some ((none, 2), S) else
  (letv (HS.new S (.map [])) fun p3 =>
  (letv (HS.new p3 (.map [])) fun p4 =>
  (letv (HS.new p4 (.cells 4 [[(.int .i64 y0), (.int .i64 0), (.map (some S.next)), (.map (some p3.next))]] true)) fun p5 =>
  some (((some (HA.cell0 p4.next)), 0), p5)))))
theorem J0_snd   {y0 : Int} {y9 : Bool} {S : HS} {p : ((Option HA) × Int) × HS} {g1 g2 g3 g4 g5 g6 g7 g8 g10 g11 g12 g13 g14 : HV} (h : J0  y0 y9 S = some p) : HRun Try.prog base W0 β0 25 none [.code c5, .code c10] ⟨[(.int .i64 y0), g1, g2, g3, g4, g5, g6, g7, g8, (.bool y9), g10, g11, g12, g13, g14], []⟩ S (fun v S1 => v = (.tup [(.ptr p.1.1), (.int .i64 p.1.2)]) ∧ S1 = p.2) := by
  unfold J0 at h
  rcases ifc h with ⟨hc2, h⟩ | ⟨hc2, h⟩
  · refine q_cond_t rfl (.tmp rfl) hc2 ?_
    refine q_seq rfl ?_
    refine q_region rfl rfl ?_
    refine qS 2 rfl (ok_assign · (.const fun _ => .ptrNil)) ?_
    refine qS 3 rfl (ok_assign · (.int _ _)) ?_
    refine hr_region_end ?_
    try dsimp only [w0, w1, w2, w3]
    cases h
    exact q_ret rfl at_.at_ rfl (res2 rfl rfl rfl) ⟨rfl, rfl⟩
  · refine q_cond_f rfl (.tmp rfl) (bfalse hc2) ?_
    refine q_skipc rfl ?_
    refine q_seq rfl ?_
    refine q_region rfl rfl ?_
    refine qS 10 rfl (ok_move · (.tmp rfl)) ?_
    obtain ⟨p3, hp3, h⟩ := leto h
    refine qS 11 rfl (ok_makeMap_e · hp3) ?_
    obtain ⟨p4, hp4, h⟩ := leto h
    refine qS 12 rfl (ok_makeMap_e · hp4) ?_
    refine qS 13 rfl (ok_build (is := [0, 2, 3]) (xs := [(.tmp 10), (.tmp 11), (.tmp 12)]) (r := [(.int .i64 y0), (.int .i64 0), (.map (some S.next)), (.map (some p3.next))]) st80 · rfl rfl (.cons (.tmp rfl) (.cons (.tmp rfl) (.cons (.tmp rfl) Evs.nil))) rfl) ?_
    try dsimp only [w0, w1, w2, w3]
    obtain ⟨p5, hp5, h⟩ := leto h
    refine qS 14 rfl (ok_box_e · (.tmp rfl) (Nat.zero_lt_succ _) rfl hp5) ?_
    refine qS 2 rfl (ok_assign · (.tmp rfl)) ?_
    refine qS 3 rfl (ok_assign · (.int _ _)) ?_
    refine hr_region_end ?_
    try dsimp only [w0, w1, w2, w3]
    cases h
    exact q_ret rfl at_.at_ rfl (res2 rfl rfl rfl) ⟨rfl, rfl⟩
def f (x0 : Int) (S : HS) : Option (((Option HA) × Int) × HS) :=
  (if x0 < 0 then
  J0 x0 true S else
  J0 x0 (decide (x0 > 100000)) S)
theorem snd {x0 : Int} {S : HS}  {p : ((Option HA) × Int) × HS} (h : f x0 S = some p) : HCall Try.prog base W0 β0 25 [(.int .i64 x0)] S (fun v S1 => v = (.tup [(.ptr p.1.1), (.int .i64 p.1.2)]) ∧ S1 = p.2) := by
  unfold f at h
  refine HCall.of_run at_.at_ body ?_
  show HRun Try.prog base W0 β0 25 none [.code c0] ⟨[(.int .i64 x0), τ, τ, τ, τ, τ, τ, τ, τ, τ, τ, τ, τ, τ, τ], []⟩ S _
  refine q_seq rfl ?_
  refine q_region rfl rfl ?_
  refine qS 2 rfl (ok_assign · (.const fun _ => .ptrNil)) ?_
  refine qS 3 rfl (ok_assign · (.int _ _)) ?_
  refine hr_region_end ?_
  try dsimp only [w0, w1, w2, w3]
  refine q_seq rfl ?_
  refine q_seq rfl ?_
  refine q_region rfl rfl ?_
  refine qS 4 rfl (ok_move · (.tmp rfl)) ?_
  refine qS 5 rfl (ok_ibin · (.tmp rfl) (.int _ _) rfl) ?_
  refine qS 6 rfl (ok_move · (.tmp rfl)) ?_
  rcases ifc h with ⟨hc1, h⟩ | ⟨hc1, h⟩
  · refine q_skip (dst := some 7) (t := 6) rfl rfl rfl (decide_eq_true hc1) ?_
    try dsimp only [w0, w1, w2, w3]
    refine q_skip (dst := some 8) (t := 6) rfl rfl rfl (decide_eq_true hc1) ?_
    refine qS 9 rfl (ok_pick_tt · (.tmp rfl) (decide_eq_true hc1) (.bool _)) ?_
    refine hr_region_end ?_
    try dsimp only [w0, w1, w2, w3]
    try dsimp only [w0, w1, w2, w3]
    exact J0_snd  h
  · refine qG 6 7 rfl (decide_eq_false hc1) (ok_move · (.tmp rfl)) ?_
    try dsimp only [w0, w1, w2, w3]
    refine qG 6 8 rfl (decide_eq_false hc1) (ok_ibin · (.tmp rfl) (.int _ _) rfl) ?_
    refine qS 9 rfl (ok_pick_ff · (.tmp rfl) (decide_eq_false hc1) (.tmp rfl)) ?_
    refine hr_region_end ?_
    try dsimp only [w0, w1, w2, w3]
    try dsimp only [w0, w1, w2, w3]
    exact J0_snd  h
end
end pair_New_int_int
namespace set_Set_int_Has
theorem at_ : FnAt Try.prog 56 Try.f56 := ⟨Try.func56, by kernel_rfl⟩
noncomputable def d0 := (Try.f56.body).getD .skip
noncomputable def r1 := kR (kA d0)
noncomputable def r4 := kR (kA (kA (kB d0)))
noncomputable def r7 := kR (kA (kA (kB (kA (kB d0)))))
noncomputable def r11 := kR (kA (kB (kB d0)))
noncomputable def r13 := kR (kA (kB (kB (kB d0))))
noncomputable def c0 : Code := .seq (.region 0 r1 false) (.seq (.seq (.region 1 r4 false) (.cond (.tmp 8) (.seq (.region 2 r7 false) .ret) .skip)) (.seq (.region 3 r11 false) (.seq (.region 4 r13 false) .ret)))
theorem body : Try.f56.body = some c0 := by kernel_rfl
section
variable {base : Nat} {W0 : World} {β0 : Bt}
def f (k : Nat) (x0 : (Option HA)) (x1 : Int) (S : HS) : Option ((Bool) × HS) :=
  (if (Option.isNone x0) = true then
  some (false, S) else
  (Option.bind (x0) fun p2 =>
  (Option.bind (HS.ldSl S (HA.fld p2 0)) fun p3 =>
  (Option.bind (slices_BinarySearch_int_int.f k p3 x1 S) fun p4 =>
  some (p4.1.2, p4.2)))))
theorem snd {k : Nat} {x0 : (Option HA)} {x1 : Int} {S : HS}  {p : (Bool) × HS} (h : f k x0 x1 S = some p) : HCall Try.prog base W0 β0 56 [(.ptr x0), (.int .i64 x1)] S (fun v S1 => v = (.bool p.1) ∧ S1 = p.2) := by
  unfold f at h
  refine HCall.of_run at_.at_ body ?_
  show HRun Try.prog base W0 β0 56 none [.code c0] ⟨[(.ptr x0), (.int .i64 x1), τ, τ, τ, τ, τ, τ, τ, τ, τ, τ, τ, τ, τ, τ, τ, τ, τ], []⟩ S _
  refine q_seq rfl ?_
  refine q_region rfl rfl ?_
  refine qS 4 rfl (ok_assign · (.bool _)) ?_
  refine hr_region_end ?_
  try dsimp only [w0, w1, w2, w3]
  refine q_seq rfl ?_
  refine q_seq rfl ?_
  refine q_region rfl rfl ?_
  refine qS 7 rfl (ok_move · (.tmp rfl)) ?_
  refine qS 8 rfl (ok_nil_ptr · tu83 (.tmp rfl) (.inl ⟨rfl, rfl⟩)) ?_
  refine hr_region_end ?_
  try dsimp only [w0, w1, w2, w3]
  rcases ifc h with ⟨hc1, h⟩ | ⟨hc1, h⟩
  · refine q_cond_t rfl (.tmp rfl) hc1 ?_
    refine q_seq rfl ?_
    refine q_region rfl rfl ?_
    refine qS 4 rfl (ok_assign · (.bool _)) ?_
    refine hr_region_end ?_
    try dsimp only [w0, w1, w2, w3]
    cases h
    exact q_ret rfl at_.at_ rfl (res1 rfl rfl) ⟨rfl, rfl⟩
  · refine q_cond_f rfl (.tmp rfl) (bfalse hc1) ?_
    refine q_skipc rfl ?_
    refine q_seq rfl ?_
    refine q_region rfl rfl ?_
    refine qS 10 rfl (ok_move · (.tmp rfl)) ?_
    obtain ⟨p2, hp2, h⟩ := bindo h
    refine qS 11 rfl (ok_nilCheck_p · (.tmp rfl) hp2) ?_
    refine qS 12 rfl (ok_fieldAddr_s · fi99_0 (by decide) (.tmp rfl) rfl) ?_
    obtain ⟨p3, hp3, h⟩ := bindo h
    refine qS 13 rfl (ok_load_s · sc43 (.tmp rfl) rfl (ldSl_out hp3)) ?_
    try dsimp only [w0, w1, w2, w3]
    refine qS 14 rfl (ok_move · (.tmp rfl)) ?_
    obtain ⟨p4, hp4, h⟩ := bindo h
    refine q_call (dst := some 15) rfl (.func _) (.cons (.tmp rfl) (.cons (.tmp rfl) Evs.nil)) (HInv.static slices_BinarySearch_int_int.at_ slices_BinarySearch_int_int.body (slices_BinarySearch_int_int.snd  hp4)) ?_
    rintro _ _ ⟨rfl, rfl⟩
    refine qS 9 rfl (ok_move · (.tmp rfl)) ?_
    refine qS 16 rfl (ok_extract · (.tmp rfl) rfl) ?_
    try dsimp only [w0, w1, w2, w3]
    refine qS 17 rfl (ok_extract · (.tmp rfl) rfl) ?_
    refine qS 5 rfl (ok_assign · (.tmp rfl)) ?_
    refine qS 6 rfl (ok_assign · (.tmp rfl)) ?_
    refine hr_region_end ?_
    try dsimp only [w0, w1, w2, w3]
    refine q_seq rfl ?_
    refine q_region rfl rfl ?_
    refine qS 18 rfl (ok_move · (.tmp rfl)) ?_
    refine qS 4 rfl (ok_assign · (.tmp rfl)) ?_
    refine hr_region_end ?_
    try dsimp only [w0, w1, w2, w3]
    cases h
    exact q_ret rfl at_.at_ rfl (res1 rfl rfl) ⟨rfl, rfl⟩
end
end set_Set_int_Has
namespace pair_Rel_int_int_Has
theorem at_ : FnAt Try.prog 39 Try.f39 := ⟨Try.func39, by kernel_rfl⟩
noncomputable def d0 := (Try.f39.body).getD .skip
noncomputable def r1 := kR (kA d0)
noncomputable def r3 := kR (kA (kB d0))
noncomputable def c4 : Code := .ret
noncomputable def c0 : Code := .seq (.region 0 r1 false) (.seq (.region 1 r3 false) c4)
theorem body : Try.f39.body = some c0 := by kernel_rfl
section
variable {base : Nat} {W0 : World} {β0 : Bt}
def J0 (k : Nat) (y18 : Bool) (S : HS) : Option ((Bool) × HS) :=
  some (y18, S)
theorem J0_snd {k : Nat}  {y18 : Bool} {S : HS} {p : (Bool) × HS} {g0 g1 g2 g3 g4 g5 g6 g7 g8 g9 g10 g11 g12 g13 g14 g15 g16 g17 : HV} (h : J0 k y18 S = some p) : HRun Try.prog base W0 β0 39 none [.inRegion r3 [12], .code c4] ⟨[g0, g1, g2, g3, g4, g5, g6, g7, g8, g9, g10, g11, g12, g13, g14, g15, g16, g17, (.bool y18)], []⟩ S (fun v S1 => v = (.bool p.1) ∧ S1 = p.2) := by
  unfold J0 at h
  refine qS 6 rfl (ok_assign · (.tmp rfl)) ?_
  refine hr_region_end ?_
  try dsimp only [w0, w1, w2, w3]
  cases h
  exact q_ret rfl at_.at_ rfl (res1 rfl rfl) ⟨rfl, rfl⟩
def f (k : Nat) (x0 : (Option HA)) (x1 : Int) (x2 : Int) (S : HS) : Option ((Bool) × HS) :=
  (if (!Option.isNone x0) = true then
  (Option.bind (x0) fun p2 =>
  (Option.bind (HS.ldM S (HA.fld p2 2)) fun p3 =>
  (Option.bind (HS.look S p3 (.int .i64 x1)) fun p4 =>
  (Option.bind (dP (Option.getD p4 (.ptr none))) fun p5 =>
  (Option.bind (set_Set_int_Has.f k p5 x2 S) fun p6 =>
  J0 k p6.1 p6.2))))) else
  J0 k false S)
theorem snd {k : Nat} {x0 : (Option HA)} {x1 : Int} {x2 : Int} {S : HS}  {p : (Bool) × HS} (h : f k x0 x1 x2 S = some p) : HCall Try.prog base W0 β0 39 [(.ptr x0), (.int .i64 x1), (.int .i64 x2)] S (fun v S1 => v = (.bool p.1) ∧ S1 = p.2) := by
  unfold f at h
  refine HCall.of_run at_.at_ body ?_
  show HRun Try.prog base W0 β0 39 none [.code c0] ⟨[(.ptr x0), (.int .i64 x1), (.int .i64 x2), τ, τ, τ, τ, τ, τ, τ, τ, τ, τ, τ, τ, τ, τ, τ, τ], []⟩ S _
  refine q_seq rfl ?_
  refine q_region rfl rfl ?_
  refine qS 6 rfl (ok_assign · (.bool _)) ?_
  refine hr_region_end ?_
  try dsimp only [w0, w1, w2, w3]
  refine q_seq rfl ?_
  refine q_region rfl rfl ?_
  refine qS 7 rfl (ok_move · (.tmp rfl)) ?_
  refine qS 8 rfl (ok_nil_ptr · tu54 (.tmp rfl) (.inr ⟨rfl, rfl⟩)) ?_
  refine qS 9 rfl (ok_move · (.tmp rfl)) ?_
  rcases ifc h with ⟨hc1, h⟩ | ⟨hc1, h⟩
  · refine qG 9 10 rfl hc1 (ok_move · (.tmp rfl)) ?_
    try dsimp only [w0, w1, w2, w3]
    obtain ⟨p2, hp2, h⟩ := bindo h
    refine qG 9 11 rfl hc1 (ok_nilCheck_p · (.tmp rfl) hp2) ?_
    refine qG 9 12 rfl hc1 (ok_fieldAddr_s · fi80_2 (by decide) (.tmp rfl) rfl) ?_
    obtain ⟨p3, hp3, h⟩ := bindo h
    refine qG 9 13 rfl hc1 (ok_load_s · sc78 (.tmp rfl) rfl (ldM_out hp3)) ?_
    refine qG 9 14 rfl hc1 (ok_move · (.tmp rfl)) ?_
    try dsimp only [w0, w1, w2, w3]
    obtain ⟨p4, hp4, h⟩ := bindo h
    obtain ⟨p5, hp5, h⟩ := bindo h
    refine qG 9 15 rfl hc1 (ok_lookup · tu78 zi83 (fun β => .ptrNil) (keyInt tu3) (.tmp rfl) (.tmp rfl) hp4 (dP_out hp5)) ?_
    refine qG 9 16 rfl hc1 (ok_move · (.tmp rfl)) ?_
    obtain ⟨p6, hp6, h⟩ := bindo h
    refine q_call_g (t := 9) (dst := some 17) rfl rfl rfl hc1 (.func _) (.cons (.tmp rfl) (.cons (.tmp rfl) Evs.nil)) (HInv.static set_Set_int_Has.at_ set_Set_int_Has.body (set_Set_int_Has.snd  hp6)) ?_
    rintro _ _ ⟨rfl, rfl⟩
    refine qS 18 rfl (ok_pick_tt · (.tmp rfl) hc1 (.tmp rfl)) ?_
    try dsimp only [w0, w1, w2, w3]
    try dsimp only [w0, w1, w2, w3]
    exact J0_snd  h
  · refine q_skip (dst := some 10) (t := 9) rfl rfl rfl (bfalse hc1) ?_
    try dsimp only [w0, w1, w2, w3]
    refine q_skip (dst := some 11) (t := 9) rfl rfl rfl (bfalse hc1) ?_
    refine q_skip (dst := some 12) (t := 9) rfl rfl rfl (bfalse hc1) ?_
    refine q_skip (dst := some 13) (t := 9) rfl rfl rfl (bfalse hc1) ?_
    refine q_skip (dst := some 14) (t := 9) rfl rfl rfl (bfalse hc1) ?_
    try dsimp only [w0, w1, w2, w3]
    refine q_skip (dst := some 15) (t := 9) rfl rfl rfl (bfalse hc1) ?_
    refine q_skip (dst := some 16) (t := 9) rfl rfl rfl (bfalse hc1) ?_
    refine q_skip (dst := some 17) (t := 9) rfl rfl rfl (bfalse hc1) ?_
    refine qS 18 rfl (ok_pick_ff · (.tmp rfl) (bfalse hc1) (.bool _)) ?_
    try dsimp only [w0, w1, w2, w3]
    try dsimp only [w0, w1, w2, w3]
    exact J0_snd  h
end
end pair_Rel_int_int_Has
namespace set_Set_int_Len
theorem at_ : FnAt Try.prog 47 Try.f47 := ⟨Try.func47, by kernel_rfl⟩
noncomputable def d0 := (Try.f47.body).getD .skip
noncomputable def r1 := kR (kA d0)
noncomputable def r4 := kR (kA (kA (kB d0)))
noncomputable def r7 := kR (kA (kA (kB (kA (kB d0)))))
noncomputable def r11 := kR (kA (kB (kB d0)))
noncomputable def c0 : Code := .seq (.region 0 r1 false) (.seq (.seq (.region 1 r4 false) (.cond (.tmp 4) (.seq (.region 2 r7 false) .ret) .skip)) (.seq (.region 3 r11 false) .ret))
theorem body : Try.f47.body = some c0 := by kernel_rfl
section
variable {base : Nat} {W0 : World} {β0 : Bt}
def f (x0 : (Option HA)) (S : HS) : Option ((Int) × HS) :=
  (if (Option.isNone x0) = true then
  some (0, S) else
  (Option.bind (x0) fun p2 =>
  (Option.bind (HS.ldSl S (HA.fld p2 0)) fun p3 =>
  some ((Sl.len p3 : Int), S))))
theorem snd {x0 : (Option HA)} {S : HS}  {p : (Int) × HS} (h : f x0 S = some p) : HCall Try.prog base W0 β0 47 [(.ptr x0)] S (fun v S1 => v = (.int .i64 p.1) ∧ S1 = p.2) := by
  unfold f at h
  refine HCall.of_run at_.at_ body ?_
  show HRun Try.prog base W0 β0 47 none [.code c0] ⟨[(.ptr x0), τ, τ, τ, τ, τ, τ, τ, τ, τ], []⟩ S _
  refine q_seq rfl ?_
  refine q_region rfl rfl ?_
  refine qS 2 rfl (ok_assign · (.int _ _)) ?_
  refine hr_region_end ?_
  try dsimp only [w0, w1, w2, w3]
  refine q_seq rfl ?_
  refine q_seq rfl ?_
  refine q_region rfl rfl ?_
  refine qS 3 rfl (ok_move · (.tmp rfl)) ?_
  refine qS 4 rfl (ok_nil_ptr · tu83 (.tmp rfl) (.inl ⟨rfl, rfl⟩)) ?_
  refine hr_region_end ?_
  try dsimp only [w0, w1, w2, w3]
  rcases ifc h with ⟨hc1, h⟩ | ⟨hc1, h⟩
  · refine q_cond_t rfl (.tmp rfl) hc1 ?_
    refine q_seq rfl ?_
    refine q_region rfl rfl ?_
    refine qS 2 rfl (ok_assign · (.int _ _)) ?_
    refine hr_region_end ?_
    try dsimp only [w0, w1, w2, w3]
    cases h
    exact q_ret rfl at_.at_ rfl (res1 rfl rfl) ⟨rfl, rfl⟩
  · refine q_cond_f rfl (.tmp rfl) (bfalse hc1) ?_
    refine q_skipc rfl ?_
    refine q_seq rfl ?_
    refine q_region rfl rfl ?_
    refine qS 5 rfl (ok_move · (.tmp rfl)) ?_
    obtain ⟨p2, hp2, h⟩ := bindo h
    refine qS 6 rfl (ok_nilCheck_p · (.tmp rfl) hp2) ?_
    refine qS 7 rfl (ok_fieldAddr_s · fi99_0 (by decide) (.tmp rfl) rfl) ?_
    obtain ⟨p3, hp3, h⟩ := bindo h
    refine qS 8 rfl (ok_load_s · sc43 (.tmp rfl) rfl (ldSl_out hp3)) ?_
    try dsimp only [w0, w1, w2, w3]
    refine qS 9 rfl (ok_len_sl (q := Sl.a p3) (n := Sl.len p3) (z := Sl.cap p3) · rfl tu43 (.tmp rfl)) ?_
    refine qS 2 rfl (ok_assign · (.tmp rfl)) ?_
    refine hr_region_end ?_
    try dsimp only [w0, w1, w2, w3]
    cases h
    exact q_ret rfl at_.at_ rfl (res1 rfl rfl) ⟨rfl, rfl⟩
end
end set_Set_int_Len
namespace pair_Rel_int_int_Count
theorem at_ : FnAt Try.prog 40 Try.f40 := ⟨Try.func40, by kernel_rfl⟩
noncomputable def d0 := (Try.f40.body).getD .skip
noncomputable def r1 := kR (kA d0)
noncomputable def r4 := kR (kA (kA (kB d0)))
noncomputable def r7 := kR (kA (kA (kB (kA (kB d0)))))
noncomputable def r11 := kR (kA (kB (kB d0)))
noncomputable def c0 : Code := .seq (.region 0 r1 false) (.seq (.seq (.region 1 r4 false) (.cond (.tmp 6) (.seq (.region 2 r7 false) .ret) .skip)) (.seq (.region 3 r11 false) .ret))
theorem body : Try.f40.body = some c0 := by kernel_rfl
section
variable {base : Nat} {W0 : World} {β0 : Bt}
def f (x0 : (Option HA)) (x1 : Int) (S : HS) : Option ((Int) × HS) :=
  (if (Option.isNone x0) = true then
  some (0, S) else
  (Option.bind (x0) fun p2 =>
  (Option.bind (HS.ldM S (HA.fld p2 2)) fun p3 =>
  (Option.bind (HS.look S p3 (.int .i64 x1)) fun p4 =>
  (Option.bind (dP (Option.getD p4 (.ptr none))) fun p5 =>
  (Option.bind (set_Set_int_Len.f p5 S) fun p6 =>
  some (p6.1, p6.2)))))))
theorem snd {x0 : (Option HA)} {x1 : Int} {S : HS}  {p : (Int) × HS} (h : f x0 x1 S = some p) : HCall Try.prog base W0 β0 40 [(.ptr x0), (.int .i64 x1)] S (fun v S1 => v = (.int .i64 p.1) ∧ S1 = p.2) := by
  unfold f at h
  refine HCall.of_run at_.at_ body ?_
  show HRun Try.prog base W0 β0 40 none [.code c0] ⟨[(.ptr x0), (.int .i64 x1), τ, τ, τ, τ, τ, τ, τ, τ, τ, τ, τ, τ], []⟩ S _
  refine q_seq rfl ?_
  refine q_region rfl rfl ?_
  refine qS 4 rfl (ok_assign · (.int _ _)) ?_
  refine hr_region_end ?_
  try dsimp only [w0, w1, w2, w3]
  refine q_seq rfl ?_
  refine q_seq rfl ?_
  refine q_region rfl rfl ?_
  refine qS 5 rfl (ok_move · (.tmp rfl)) ?_
  refine qS 6 rfl (ok_nil_ptr · tu54 (.tmp rfl) (.inl ⟨rfl, rfl⟩)) ?_
  refine hr_region_end ?_
  try dsimp only [w0, w1, w2, w3]
  rcases ifc h with ⟨hc1, h⟩ | ⟨hc1, h⟩
  · refine q_cond_t rfl (.tmp rfl) hc1 ?_
    refine q_seq rfl ?_
    refine q_region rfl rfl ?_
    refine qS 4 rfl (ok_assign · (.int _ _)) ?_
    refine hr_region_end ?_
    try dsimp only [w0, w1, w2, w3]
    cases h
    exact q_ret rfl at_.at_ rfl (res1 rfl rfl) ⟨rfl, rfl⟩
  · refine q_cond_f rfl (.tmp rfl) (bfalse hc1) ?_
    refine q_skipc rfl ?_
    refine q_seq rfl ?_
    refine q_region rfl rfl ?_
    refine qS 7 rfl (ok_move · (.tmp rfl)) ?_
    obtain ⟨p2, hp2, h⟩ := bindo h
    refine qS 8 rfl (ok_nilCheck_p · (.tmp rfl) hp2) ?_
    refine qS 9 rfl (ok_fieldAddr_s · fi80_2 (by decide) (.tmp rfl) rfl) ?_
    obtain ⟨p3, hp3, h⟩ := bindo h
    refine qS 10 rfl (ok_load_s · sc78 (.tmp rfl) rfl (ldM_out hp3)) ?_
    try dsimp only [w0, w1, w2, w3]
    refine qS 11 rfl (ok_move · (.tmp rfl)) ?_
    obtain ⟨p4, hp4, h⟩ := bindo h
    obtain ⟨p5, hp5, h⟩ := bindo h
    refine qS 12 rfl (ok_lookup · tu78 zi83 (fun β => .ptrNil) (keyInt tu3) (.tmp rfl) (.tmp rfl) hp4 (dP_out hp5)) ?_
    obtain ⟨p6, hp6, h⟩ := bindo h
    refine q_call (dst := some 13) rfl (.func _) (.cons (.tmp rfl) Evs.nil) (HInv.static set_Set_int_Len.at_ set_Set_int_Len.body (set_Set_int_Len.snd  hp6)) ?_
    rintro _ _ ⟨rfl, rfl⟩
    refine qS 4 rfl (ok_assign · (.tmp rfl)) ?_
    refine hr_region_end ?_
    try dsimp only [w0, w1, w2, w3]
    cases h
    exact q_ret rfl at_.at_ rfl (res1 rfl rfl) ⟨rfl, rfl⟩
end
end pair_Rel_int_int_Count
namespace pair_put_int_int
theorem at_ : FnAt Try.prog 41 Try.f41 := ⟨Try.func41, by kernel_rfl⟩
noncomputable def d0 := (Try.f41.body).getD .skip
noncomputable def r2 := kR (kA (kA d0))
noncomputable def r4 := kR (kA (kB (kA d0)))
noncomputable def r6 := kR (kB d0)
noncomputable def c6 : Code := .region 2 r6 false
noncomputable def c0 : Code := .seq (.seq (.region 0 r2 false) (.cond (.tmp 9) (.region 1 r4 false) .skip)) c6
theorem body : Try.f41.body = some c0 := by kernel_rfl
section
variable {base : Nat} {W0 : World} {β0 : Bt}
def J0 (k : Nat) (y0 : (Option Nat)) (y1 : Int) (y2 : Int) (S : HS) : Option ((Unit) × HS) :=
  (Option.bind (HS.look S y0 (.int .i64 y1)) fun p6 =>
  (Option.bind (dP (Option.getD p6 (.ptr none))) fun p7 =>
  (letv (HS.lit S [[(.int .i64 y2)]] 1) fun p8 =>
  (Option.bind (set_Set_int_Add.f k p7 (p8.1) (p8.2)) fun p9 =>
  some ((), p9.2)))))
theorem J0_snd {k : Nat}  {y0 : (Option Nat)} {y1 : Int} {y2 : Int} {S : HS} {p : (Unit) × HS} {g3 g4 g5 g6 g7 g8 g9 g10 g11 g12 g13 g14 g15 g16 g17 g18 : HV} (h : J0 k y0 y1 y2 S = some p) : HRun Try.prog base W0 β0 41 none [.code c6] ⟨[(.map y0), (.int .i64 y1), (.int .i64 y2), g3, g4, g5, g6, g7, g8, g9, g10, g11, g12, g13, g14, g15, g16, g17, g18], []⟩ S (fun v S1 => v = (.tup []) ∧ S1 = p.2) := by
  unfold J0 at h
  refine q_region rfl rfl ?_
  refine qS 13 rfl (ok_move · (.tmp rfl)) ?_
  refine qS 14 rfl (ok_move · (.tmp rfl)) ?_
  obtain ⟨p6, hp6, h⟩ := bindo h
  obtain ⟨p7, hp7, h⟩ := bindo h
  refine qS 15 rfl (ok_lookup · tu78 zi83 (fun β => .ptrNil) (keyInt tu3) (.tmp rfl) (.tmp rfl) hp6 (dP_out hp7)) ?_
  refine qS 16 rfl (ok_move · (.tmp rfl)) ?_
  try dsimp only [w0, w1, w2, w3]
  obtain ⟨p8, hp8, h⟩ := leto h
  refine qS 17 rfl (ok_buildSlice_s (xs := [(.tmp 16)]) el43 · rfl rfl (by decide) (.cons (.tmp rfl) Evs.nil) rfl rfl hp8) ?_
  obtain ⟨p9, hp9, h⟩ := bindo h
  refine q_call (dst := some 18) rfl (.func _) (.cons (.tmp rfl) (.cons (.tmp rfl) Evs.nil)) (HInv.static set_Set_int_Add.at_ set_Set_int_Add.body (set_Set_int_Add.snd  hp9)) ?_
  rintro _ _ ⟨rfl, rfl⟩
  refine hr_region_end ?_
  try dsimp only [w0, w1, w2, w3]
  cases h
  exact q_end at_.at_ rfl (res0 rfl) ⟨rfl, rfl⟩
def f (k : Nat) (x0 : (Option Nat)) (x1 : Int) (x2 : Int) (S : HS) : Option ((Unit) × HS) :=
  (Option.bind (HS.look S x0 (.int .i64 x1)) fun p1 =>
  (Option.bind (dP (Option.getD p1 (.ptr none))) fun p2 =>
  (if (Option.isNone p2) = true then
  (Option.bind (set_Of_int.f k Sl.nil S) fun p4 =>
  (Option.bind (HS.mput p4.2 x0 (.int .i64 x1) (.ptr p4.1)) fun p5 =>
  J0 k x0 x1 x2 p5)) else
  J0 k x0 x1 x2 S)))
theorem snd {k : Nat} {x0 : (Option Nat)} {x1 : Int} {x2 : Int} {S : HS}  {p : (Unit) × HS} (h : f k x0 x1 x2 S = some p) : HCall Try.prog base W0 β0 41 [(.map x0), (.int .i64 x1), (.int .i64 x2)] S (fun v S1 => v = (.tup []) ∧ S1 = p.2) := by
  unfold f at h
  refine HCall.of_run at_.at_ body ?_
  show HRun Try.prog base W0 β0 41 none [.code c0] ⟨[(.map x0), (.int .i64 x1), (.int .i64 x2), τ, τ, τ, τ, τ, τ, τ, τ, τ, τ, τ, τ, τ, τ, τ, τ], []⟩ S _
  refine q_seq rfl ?_
  refine q_seq rfl ?_
  refine q_region rfl rfl ?_
  refine qS 6 rfl (ok_move · (.tmp rfl)) ?_
  refine qS 7 rfl (ok_move · (.tmp rfl)) ?_
  obtain ⟨p1, hp1, h⟩ := bindo h
  obtain ⟨p2, hp2, h⟩ := bindo h
  refine qS 8 rfl (ok_lookup · tu78 zi83 (fun β => .ptrNil) (keyInt tu3) (.tmp rfl) (.tmp rfl) hp1 (dP_out hp2)) ?_
  refine qS 9 rfl (ok_nil_ptr · tu83 (.tmp rfl) (.inl ⟨rfl, rfl⟩)) ?_
  refine hr_region_end ?_
  try dsimp only [w0, w1, w2, w3]
  rcases ifc h with ⟨hc3, h⟩ | ⟨hc3, h⟩
  · refine q_cond_t rfl (.tmp rfl) hc3 ?_
    refine q_region rfl rfl ?_
    refine qS 10 rfl (ok_move · (.tmp rfl)) ?_
    refine qS 11 rfl (ok_move · (.tmp rfl)) ?_
    obtain ⟨p4, hp4, h⟩ := bindo h
    refine q_call (dst := some 12) rfl (.func _) (.cons (.const fun _ => .slNil none) Evs.nil) (HInv.static set_Of_int.at_ set_Of_int.body (set_Of_int.snd  hp4)) ?_
    rintro _ _ ⟨rfl, rfl⟩
    obtain ⟨p5, hp5, h⟩ := bindo h
    refine qN rfl (ok_mapUpdate · tu78 (keyInt tu3) (.tmp rfl) (.tmp rfl) (.tmp rfl) hp5) ?_
    refine hr_region_end ?_
    try dsimp only [w0, w1, w2, w3]
    try dsimp only [w0, w1, w2, w3]
    exact J0_snd  h
  · refine q_cond_f rfl (.tmp rfl) (bfalse hc3) ?_
    refine q_skipc rfl ?_
    try dsimp only [w0, w1, w2, w3]
    exact J0_snd  h
end
end pair_put_int_int
namespace pair_Rel_int_int_Add
theorem at_ : FnAt Try.prog 26 Try.f26 := ⟨Try.func26, by kernel_rfl⟩
noncomputable def d0 := (Try.f26.body).getD .skip
noncomputable def r1 := kR (kA d0)
noncomputable def d4 := kA (kA (kB d0))
noncomputable def r5 := kR (kA d4)
noncomputable def r8 := kR (kA (kA (kB d4)))
noncomputable def r11 := kR (kA (kB (kB d4)))
noncomputable def r14 := kR (kA (kA (kB (kB (kB d4)))))
noncomputable def r17 := kR (kA (kB (kB (kB (kB d4)))))
noncomputable def r20 := kR (kA (kA (kB (kB (kB (kB (kB d4)))))))
noncomputable def r24 := kR (kA (kB (kB d0)))
noncomputable def r26 := kR (kA (kB (kB (kB d0))))
noncomputable def r28 := kR (kA (kB (kB (kB (kB d0)))))
noncomputable def r30 := kR (kA (kB (kB (kB (kB (kB d0))))))
noncomputable def c0 : Code := .seq (.region 0 r1 false) (.seq (.block 0 (.seq (.region 1 r5 false) (.cond (.tmp 7) (.seq (.region 2 r8 false) .ret) (.seq (.region 3 r11 false) (.cond (.tmp 10) (.seq (.region 4 r14 false) .ret) (.seq (.region 5 r17 true) (.cond (.tmp 15) (.seq (.region 6 r20 false) .ret) .skip))))))) (.seq (.region 7 r24 false) (.seq (.region 8 r26 false) (.seq (.region 9 r28 false) (.seq (.region 10 r30 false) .ret)))))
theorem body : Try.f26.body = some c0 := by kernel_rfl
section
variable {base : Nat} {W0 : World} {β0 : Bt}
def f (k : Nat) (x0 : (Option HA)) (x1 : Int) (x2 : Int) (S : HS) : Option ((Int) × HS) :=
  (if (Option.isNone x0) = true then
  some (1, S) else
  (Option.bind (pair_Rel_int_int_Has.f k x0 x1 x2 S) fun p2 =>
  (if p2.1 = true then
  some (6, p2.2) else
  (Option.bind (pair_Rel_int_int_Count.f x0 x1 p2.2) fun p4 =>
  (Option.bind (x0) fun p5 =>
  (Option.bind (HS.ldI p4.2 .i64 (HA.fld p5 0)) fun p6 =>
  (Option.bind (HS.ldI p2.2 .i64 (HA.fld p5 0)) fun p7 =>
  (if p7 = p6 then
  (if p4.1 ≥ p6 then
  some (7, p4.2) else
  (Option.bind (x0) fun p10 =>
  (Option.bind (HS.ldM p4.2 (HA.fld p10 2)) fun p11 =>
  (Option.bind (pair_put_int_int.f k p11 x1 x2 p4.2) fun p12 =>
  (Option.bind (x0) fun p13 =>
  (Option.bind (HS.ldM p12.2 (HA.fld p13 3)) fun p14 =>
  (Option.bind (pair_put_int_int.f k p14 x2 x1 p12.2) fun p15 =>
  (Option.bind (x0) fun p16 =>
  (Option.bind (HS.ldI p15.2 .i64 (HA.fld p16 1)) fun p17 =>
  (Option.bind (x0) fun p18 =>
  (Option.bind (HS.sets p15.2 (HA.fld p18 1) [(.int .i64 (w64 (p17 + 1)))]) fun p19 =>
  some (0, p19)))))))))))) else none))))))))
theorem snd {k : Nat} {x0 : (Option HA)} {x1 : Int} {x2 : Int} {S : HS}  {p : (Int) × HS} (h : f k x0 x1 x2 S = some p) : HCall Try.prog base W0 β0 26 [(.ptr x0), (.int .i64 x1), (.int .i64 x2)] S (fun v S1 => v = (.int .i64 p.1) ∧ S1 = p.2) := by
  unfold f at h
  refine HCall.of_run at_.at_ body ?_
  show HRun Try.prog base W0 β0 26 none [.code c0] ⟨[(.ptr x0), (.int .i64 x1), (.int .i64 x2), τ, τ, τ, τ, τ, τ, τ, τ, τ, τ, τ, τ, τ, τ, τ, τ, τ, τ, τ, τ, τ, τ, τ, τ, τ, τ, τ, τ, τ, τ, τ, τ, τ, τ, τ, τ, τ, τ, τ, τ, τ, τ], []⟩ S _
  refine q_seq rfl ?_
  refine q_region rfl rfl ?_
  refine qS 6 rfl (ok_assign · (.int _ _)) ?_
  refine hr_region_end ?_
  try dsimp only [w0, w1, w2, w3]
  refine q_seq rfl ?_
  refine q_block rfl ?_
  refine q_seq rfl ?_
  refine q_region rfl rfl ?_
  refine qS 8 rfl (ok_move · (.tmp rfl)) ?_
  refine qS 9 rfl (ok_nil_ptr · tu54 (.tmp rfl) (.inl ⟨rfl, rfl⟩)) ?_
  refine qS 7 rfl (ok_assign · (.tmp rfl)) ?_
  refine hr_region_end ?_
  try dsimp only [w0, w1, w2, w3]
  rcases ifc h with ⟨hc1, h⟩ | ⟨hc1, h⟩
  · refine q_cond_t rfl (.tmp rfl) hc1 ?_
    refine q_seq rfl ?_
    refine q_region rfl rfl ?_
    refine qS 6 rfl (ok_assign · (.int _ _)) ?_
    refine hr_region_end ?_
    try dsimp only [w0, w1, w2, w3]
    cases h
    exact q_ret rfl at_.at_ rfl (res1 rfl rfl) ⟨rfl, rfl⟩
  · refine q_cond_f rfl (.tmp rfl) (bfalse hc1) ?_
    refine q_seq rfl ?_
    refine q_region rfl rfl ?_
    refine qS 11 rfl (ok_move · (.tmp rfl)) ?_
    refine qS 12 rfl (ok_move · (.tmp rfl)) ?_
    refine qS 13 rfl (ok_move · (.tmp rfl)) ?_
    obtain ⟨p2, hp2, h⟩ := bindo h
    refine q_call (dst := some 14) rfl (.func _) (.cons (.tmp rfl) (.cons (.tmp rfl) (.cons (.tmp rfl) Evs.nil))) (HInv.static pair_Rel_int_int_Has.at_ pair_Rel_int_int_Has.body (pair_Rel_int_int_Has.snd  hp2)) ?_
    rintro _ _ ⟨rfl, rfl⟩
    try dsimp only [w0, w1, w2, w3]
    refine qS 10 rfl (ok_assign · (.tmp rfl)) ?_
    refine hr_region_end ?_
    try dsimp only [w0, w1, w2, w3]
    rcases ifc h with ⟨hc3, h⟩ | ⟨hc3, h⟩
    · refine q_cond_t rfl (.tmp rfl) hc3 ?_
      refine q_seq rfl ?_
      refine q_region rfl rfl ?_
      refine qS 6 rfl (ok_assign · (.int _ _)) ?_
      refine hr_region_end ?_
      try dsimp only [w0, w1, w2, w3]
      cases h
      exact q_ret rfl at_.at_ rfl (res1 rfl rfl) ⟨rfl, rfl⟩
    · refine q_cond_f rfl (.tmp rfl) (bfalse hc3) ?_
      refine q_seq rfl ?_
      refine x_start (cls := [0, 0, 2, 0, 0, 0, 3, 0, 0]) (rk := [0, 1, 2, 3, 4, 5, 6, 7, 8]) rfl (by kernel_rfl) ?_
      refine xf 16 [0] rfl (ok_move · (.tmp rfl)) ?_
      refine xf 17 [1] rfl (ok_move · (.tmp rfl)) ?_
      obtain ⟨p4, hp4, h⟩ := bindo h
      refine x_goE (e_call (dst := some 18) (ts := [16, 17]) rfl (by kernel_rfl) (.func _) (.cons (.tmp rfl) (.cons (.tmp rfl) Evs.nil)) (HInv.static pair_Rel_int_int_Count.at_ pair_Rel_int_int_Count.body (pair_Rel_int_int_Count.snd  hp4))) rfl trivial ?_
      refine xf 19 [0] rfl (ok_move · (.tmp rfl)) ?_
      try dsimp only [w0, w1, w2, w3]
      obtain ⟨p5, hp5, h⟩ := bindo h
      refine xf 20 [19] rfl (ok_nilCheck_p · (.tmp rfl) hp5) ?_
      refine xf 21 [20] rfl (ok_fieldAddr_s · fi80_0 (by decide) (.tmp rfl) rfl) ?_
      obtain ⟨p6, hp6, h⟩ := bindo h
      obtain ⟨p7, hp7, h⟩ := bindo h
      obtain ⟨hg8, h⟩ := gd h
      refine x_late (r_op (dst := some 22) (ts := [21]) rfl (by intro _ _ h; cases h) (by kernel_rfl) (fun _ ho => ok_load_s ho sc3 (.tmp rfl) rfl (ldI_out hp6))) rfl ⟨.inr (l_op (dst := some 22) (ts := [21]) rfl (by intro _ _ h; cases h) (by kernel_rfl) (fun _ ho => ok_load_s ho sc3 (.tmp rfl) rfl (ldI_out (hp7.trans (congrArg some hg8))))), trivial⟩ ?_
      refine xf 23 [18, 22] rfl (ok_ibin · (.tmp rfl) (.tmp rfl) rfl) ?_
      try dsimp only [w0, w1, w2, w3]
      refine xf 15 [23] rfl (ok_assign · (.tmp rfl)) ?_
      refine x_rest rfl ?_
      refine hr_region_end ?_
      try dsimp only [w0, w1, w2, w3]
      rcases ifc h with ⟨hc9, h⟩ | ⟨hc9, h⟩
      · refine q_cond_t rfl (.tmp rfl) (decide_eq_true hc9) ?_
        refine q_seq rfl ?_
        refine q_region rfl rfl ?_
        refine qS 6 rfl (ok_assign · (.int _ _)) ?_
        refine hr_region_end ?_
        try dsimp only [w0, w1, w2, w3]
        cases h
        exact q_ret rfl at_.at_ rfl (res1 rfl rfl) ⟨rfl, rfl⟩
      · refine q_cond_f rfl (.tmp rfl) (decide_eq_false hc9) ?_
        refine q_skipc rfl ?_
        refine hr_inBlock ?_
        refine q_seq rfl ?_
        refine q_region rfl rfl ?_
        refine qS 24 rfl (ok_move · (.tmp rfl)) ?_
        obtain ⟨p10, hp10, h⟩ := bindo h
        refine qS 25 rfl (ok_nilCheck_p · (.tmp rfl) hp10) ?_
        refine qS 26 rfl (ok_fieldAddr_s · fi80_2 (by decide) (.tmp rfl) rfl) ?_
        obtain ⟨p11, hp11, h⟩ := bindo h
        refine qS 27 rfl (ok_load_s · sc78 (.tmp rfl) rfl (ldM_out hp11)) ?_
        try dsimp only [w0, w1, w2, w3]
        refine qS 28 rfl (ok_move · (.tmp rfl)) ?_
        refine qS 29 rfl (ok_move · (.tmp rfl)) ?_
        obtain ⟨p12, hp12, h⟩ := bindo h
        refine q_call (dst := some 30) rfl (.func _) (.cons (.tmp rfl) (.cons (.tmp rfl) (.cons (.tmp rfl) Evs.nil))) (HInv.static pair_put_int_int.at_ pair_put_int_int.body (pair_put_int_int.snd  hp12)) ?_
        rintro _ _ ⟨rfl, rfl⟩
        refine hr_region_end ?_
        try dsimp only [w0, w1, w2, w3]
        refine q_seq rfl ?_
        refine q_region rfl rfl ?_
        refine qS 31 rfl (ok_move · (.tmp rfl)) ?_
        obtain ⟨p13, hp13, h⟩ := bindo h
        refine qS 32 rfl (ok_nilCheck_p · (.tmp rfl) hp13) ?_
        refine qS 33 rfl (ok_fieldAddr_s · fi80_3 (by decide) (.tmp rfl) rfl) ?_
        obtain ⟨p14, hp14, h⟩ := bindo h
        refine qS 34 rfl (ok_load_s · sc78 (.tmp rfl) rfl (ldM_out hp14)) ?_
        try dsimp only [w0, w1, w2, w3]
        refine qS 35 rfl (ok_move · (.tmp rfl)) ?_
        refine qS 36 rfl (ok_move · (.tmp rfl)) ?_
        obtain ⟨p15, hp15, h⟩ := bindo h
        refine q_call (dst := some 37) rfl (.func _) (.cons (.tmp rfl) (.cons (.tmp rfl) (.cons (.tmp rfl) Evs.nil))) (HInv.static pair_put_int_int.at_ pair_put_int_int.body (pair_put_int_int.snd  hp15)) ?_
        rintro _ _ ⟨rfl, rfl⟩
        refine hr_region_end ?_
        try dsimp only [w0, w1, w2, w3]
        refine q_seq rfl ?_
        refine q_region rfl rfl ?_
        refine qS 38 rfl (ok_move · (.tmp rfl)) ?_
        obtain ⟨p16, hp16, h⟩ := bindo h
        refine qS 39 rfl (ok_nilCheck_p · (.tmp rfl) hp16) ?_
        refine qS 40 rfl (ok_fieldAddr_s · fi80_1 (by decide) (.tmp rfl) rfl) ?_
        obtain ⟨p17, hp17, h⟩ := bindo h
        refine qS 41 rfl (ok_load_s · sc3 (.tmp rfl) rfl (ldI_out hp17)) ?_
        try dsimp only [w0, w1, w2, w3]
        refine qS 42 rfl (ok_ibin · (.tmp rfl) (.int _ _) rfl) ?_
        obtain ⟨p18, hp18, h⟩ := bindo h
        refine qS 43 rfl (ok_nilCheck_p · (.tmp rfl) hp18) ?_
        refine qS 44 rfl (ok_fieldAddr_s · fi80_1 (by decide) (.tmp rfl) rfl) ?_
        obtain ⟨p19, hp19, h⟩ := bindo h
        refine qN rfl (ok_store_s (v := (.int .i64 (w64 (p17 + 1)))) · sz3 (.tmp rfl) rfl (.tmp rfl) rfl hp19) ?_
        refine hr_region_end ?_
        try dsimp only [w0, w1, w2, w3]
        refine q_seq rfl ?_
        refine q_region rfl rfl ?_
        refine qS 6 rfl (ok_assign · (.int _ _)) ?_
        refine hr_region_end ?_
        try dsimp only [w0, w1, w2, w3]
        cases h
        exact q_ret rfl at_.at_ rfl (res1 rfl rfl) ⟨rfl, rfl⟩
end
end pair_Rel_int_int_Add
namespace pair_Rel_int_int_Len
theorem at_ : FnAt Try.prog 27 Try.f27 := ⟨Try.func27, by kernel_rfl⟩
noncomputable def d0 := (Try.f27.body).getD .skip
noncomputable def r1 := kR (kA d0)
noncomputable def r4 := kR (kA (kA (kB d0)))
noncomputable def r7 := kR (kA (kA (kB (kA (kB d0)))))
noncomputable def r11 := kR (kA (kB (kB d0)))
noncomputable def c0 : Code := .seq (.region 0 r1 false) (.seq (.seq (.region 1 r4 false) (.cond (.tmp 4) (.seq (.region 2 r7 false) .ret) .skip)) (.seq (.region 3 r11 false) .ret))
theorem body : Try.f27.body = some c0 := by kernel_rfl
section
variable {base : Nat} {W0 : World} {β0 : Bt}
def f (x0 : (Option HA)) (S : HS) : Option ((Int) × HS) :=
  (if (Option.isNone x0) = true then
  some (0, S) else
  (Option.bind (x0) fun p2 =>
  (Option.bind (HS.ldI S .i64 (HA.fld p2 1)) fun p3 =>
  some (p3, S))))
theorem snd {x0 : (Option HA)} {S : HS}  {p : (Int) × HS} (h : f x0 S = some p) : HCall Try.prog base W0 β0 27 [(.ptr x0)] S (fun v S1 => v = (.int .i64 p.1) ∧ S1 = p.2) := by
  unfold f at h
  refine HCall.of_run at_.at_ body ?_
  show HRun Try.prog base W0 β0 27 none [.code c0] ⟨[(.ptr x0), τ, τ, τ, τ, τ, τ, τ, τ], []⟩ S _
  refine q_seq rfl ?_
  refine q_region rfl rfl ?_
  refine qS 2 rfl (ok_assign · (.int _ _)) ?_
  refine hr_region_end ?_
  try dsimp only [w0, w1, w2, w3]
  refine q_seq rfl ?_
  refine q_seq rfl ?_
  refine q_region rfl rfl ?_
  refine qS 3 rfl (ok_move · (.tmp rfl)) ?_
  refine qS 4 rfl (ok_nil_ptr · tu54 (.tmp rfl) (.inl ⟨rfl, rfl⟩)) ?_
  refine hr_region_end ?_
  try dsimp only [w0, w1, w2, w3]
  rcases ifc h with ⟨hc1, h⟩ | ⟨hc1, h⟩
  · refine q_cond_t rfl (.tmp rfl) hc1 ?_
    refine q_seq rfl ?_
    refine q_region rfl rfl ?_
    refine qS 2 rfl (ok_assign · (.int _ _)) ?_
    refine hr_region_end ?_
    try dsimp only [w0, w1, w2, w3]
    cases h
    exact q_ret rfl at_.at_ rfl (res1 rfl rfl) ⟨rfl, rfl⟩
  · refine q_cond_f rfl (.tmp rfl) (bfalse hc1) ?_
    refine q_skipc rfl ?_
    refine q_seq rfl ?_
    refine q_region rfl rfl ?_
    refine qS 5 rfl (ok_move · (.tmp rfl)) ?_
    obtain ⟨p2, hp2, h⟩ := bindo h
    refine qS 6 rfl (ok_nilCheck_p · (.tmp rfl) hp2) ?_
    refine qS 7 rfl (ok_fieldAddr_s · fi80_1 (by decide) (.tmp rfl) rfl) ?_
    obtain ⟨p3, hp3, h⟩ := bindo h
    refine qS 8 rfl (ok_load_s · sc3 (.tmp rfl) rfl (ldI_out hp3)) ?_
    try dsimp only [w0, w1, w2, w3]
    refine qS 2 rfl (ok_assign · (.tmp rfl)) ?_
    refine hr_region_end ?_
    try dsimp only [w0, w1, w2, w3]
    cases h
    exact q_ret rfl at_.at_ rfl (res1 rfl rfl) ⟨rfl, rfl⟩
end
end pair_Rel_int_int_Len
namespace pair_Rel_int_int_By_1
theorem at_ : FnAt Try.prog 42 Try.f42 := ⟨Try.func42, by kernel_rfl⟩
noncomputable def d0 := (Try.f42.body).getD .skip
noncomputable def c0 : Code := .skip
theorem body : Try.f42.body = some c0 := by kernel_rfl
section
variable {base : Nat} {W0 : World} {β0 : Bt}
def f (x0 : HV) : Option (Unit) :=
  some ()
theorem snd {x0 : HV} {S : HS}  {p : Unit} (h : f x0 = some p) : HCall Try.prog base W0 β0 42 [x0] S (fun v S1 => v = (.tup []) ∧ S1 = S) := by
  unfold f at h
  refine HCall.of_run at_.at_ body ?_
  show HRun Try.prog base W0 β0 42 none [.code c0] ⟨[x0, τ], []⟩ S _
  refine q_skipc rfl ?_
  cases h
  exact q_end at_.at_ rfl (res0 rfl) ⟨rfl, rfl⟩
end
end pair_Rel_int_int_By_1
namespace pair_Rel_int_int_By
theorem at_ : FnAt Try.prog 28 Try.f28 := ⟨Try.func28, by kernel_rfl⟩
noncomputable def d0 := (Try.f28.body).getD .skip
noncomputable def r1 := kR (kA d0)
noncomputable def r4 := kR (kA (kA (kB d0)))
noncomputable def r7 := kR (kA (kA (kB (kA (kB d0)))))
noncomputable def r11 := kR (kA (kB (kB d0)))
noncomputable def c0 : Code := .seq (.region 0 r1 false) (.seq (.seq (.region 1 r4 false) (.cond (.tmp 6) (.seq (.region 2 r7 false) .ret) .skip)) (.seq (.region 3 r11 false) .ret))
theorem body : Try.f28.body = some c0 := by kernel_rfl
section
variable {base : Nat} {W0 : World} {β0 : Bt}
def f (x0 : (Option HA)) (x1 : Int) (S : HS) : Option ((HV) × HS) :=
  (if (Option.isNone x0) = true then
  some ((HV.fn (.func 42) [] []), S) else
  (Option.bind (x0) fun p2 =>
  (Option.bind (HS.ldM S (HA.fld p2 3)) fun p3 =>
  (Option.bind (HS.look S p3 (.int .i64 x1)) fun p4 =>
  (Option.bind (dP (Option.getD p4 (.ptr none))) fun p5 =>
  (Option.bind (set_Set_int_All.f p5 S) fun p6 =>
  some (p6.1, p6.2)))))))
theorem snd {x0 : (Option HA)} {x1 : Int} {S : HS}  {p : (HV) × HS} (h : f x0 x1 S = some p) : HCall Try.prog base W0 β0 28 [(.ptr x0), (.int .i64 x1)] S (fun v S1 => v = p.1 ∧ S1 = p.2) := by
  unfold f at h
  refine HCall.of_run at_.at_ body ?_
  show HRun Try.prog base W0 β0 28 none [.code c0] ⟨[(.ptr x0), (.int .i64 x1), τ, τ, τ, τ, τ, τ, τ, τ, τ, τ, τ, τ], []⟩ S _
  refine q_seq rfl ?_
  refine q_region rfl rfl ?_
  refine qS 4 rfl (ok_assign · (.const fun _ => .nilFn)) ?_
  refine hr_region_end ?_
  try dsimp only [w0, w1, w2, w3]
  refine q_seq rfl ?_
  refine q_seq rfl ?_
  refine q_region rfl rfl ?_
  refine qS 5 rfl (ok_move · (.tmp rfl)) ?_
  refine qS 6 rfl (ok_nil_ptr · tu54 (.tmp rfl) (.inl ⟨rfl, rfl⟩)) ?_
  refine hr_region_end ?_
  try dsimp only [w0, w1, w2, w3]
  rcases ifc h with ⟨hc1, h⟩ | ⟨hc1, h⟩
  · refine q_cond_t rfl (.tmp rfl) hc1 ?_
    refine q_seq rfl ?_
    refine q_region rfl rfl ?_
    refine qS 4 rfl (ok_assign · (.func _)) ?_
    refine hr_region_end ?_
    try dsimp only [w0, w1, w2, w3]
    cases h
    exact q_ret rfl at_.at_ rfl (res1 rfl rfl) ⟨rfl, rfl⟩
  · refine q_cond_f rfl (.tmp rfl) (bfalse hc1) ?_
    refine q_skipc rfl ?_
    refine q_seq rfl ?_
    refine q_region rfl rfl ?_
    refine qS 7 rfl (ok_move · (.tmp rfl)) ?_
    obtain ⟨p2, hp2, h⟩ := bindo h
    refine qS 8 rfl (ok_nilCheck_p · (.tmp rfl) hp2) ?_
    refine qS 9 rfl (ok_fieldAddr_s · fi80_3 (by decide) (.tmp rfl) rfl) ?_
    obtain ⟨p3, hp3, h⟩ := bindo h
    refine qS 10 rfl (ok_load_s · sc78 (.tmp rfl) rfl (ldM_out hp3)) ?_
    try dsimp only [w0, w1, w2, w3]
    refine qS 11 rfl (ok_move · (.tmp rfl)) ?_
    obtain ⟨p4, hp4, h⟩ := bindo h
    obtain ⟨p5, hp5, h⟩ := bindo h
    refine qS 12 rfl (ok_lookup · tu78 zi83 (fun β => .ptrNil) (keyInt tu3) (.tmp rfl) (.tmp rfl) hp4 (dP_out hp5)) ?_
    obtain ⟨p6, hp6, h⟩ := bindo h
    refine q_call (dst := some 13) rfl (.func _) (.cons (.tmp rfl) Evs.nil) (HInv.static set_Set_int_All.at_ set_Set_int_All.body (set_Set_int_All.snd  hp6)) ?_
    rintro _ _ ⟨rfl, rfl⟩
    refine qS 4 rfl (ok_assign · (.tmp rfl)) ?_
    refine hr_region_end ?_
    try dsimp only [w0, w1, w2, w3]
    cases h
    exact q_ret rfl at_.at_ rfl (res1 rfl rfl) ⟨rfl, rfl⟩
end
end pair_Rel_int_int_By
namespace slices_Delete_int_int
theorem at_ : FnAt Try.prog 61 Try.f61 := ⟨Try.func61, by kernel_rfl⟩
noncomputable def d0 := (Try.f61.body).getD .skip
noncomputable def r1 := kR (kA d0)
noncomputable def r3 := kR (kA (kB d0))
noncomputable def r6 := kR (kA (kA (kB (kB d0))))
noncomputable def r9 := kR (kA (kA (kB (kA (kB (kB d0))))))
noncomputable def d12 := kB (kB (kB d0))
noncomputable def r13 := kR (kA d12)
noncomputable def r15 := kR (kA (kB d12))
noncomputable def r17 := kR (kA (kB (kB d12)))
noncomputable def r19 := kR (kA (kB (kB (kB d12))))
noncomputable def c0 : Code := .seq (.region 0 r1 false) (.seq (.region 1 r3 false) (.seq (.seq (.region 2 r6 false) (.cond (.tmp 16) (.seq (.region 3 r9 false) .ret) .skip)) (.seq (.region 4 r13 false) (.seq (.region 5 r15 true) (.seq (.region 6 r17 false) (.seq (.region 7 r19 false) .ret))))))
theorem body : Try.f61.body = some c0 := by kernel_rfl
section
variable {base : Nat} {W0 : World} {β0 : Bt}
def f (x0 : Sl) (x1 : Int) (x2 : Int) (S : HS) : Option ((Sl) × HS) :=
  (Option.bind (HS.cut3 S x0 x1 x2 (Sl.len x0 : Int) 1) fun p1 =>
  (if x1 = x2 then
  some (x0, S) else
  (Option.bind (HS.cut S x0 0 x1 1) fun p3 =>
  (Option.bind (HS.cut S x0 x2 (Sl.len x0 : Int) 1) fun p4 =>
  (Option.bind (HS.rows S p4 1) fun p5 =>
  (Option.bind (HS.app S p3 p5 1) fun p6 =>
  (Option.bind (HS.cut (p6.2) (p6.1) (Sl.len (p6.1) : Int) (Sl.len x0 : Int) 1) fun p7 =>
  (Option.bind (HS.over (p6.2) p7 (List.replicate (Sl.len p7) [(.int .i64 0)]) 1) fun p8 =>
  some ((p6.1), p8)))))))))
theorem snd {x0 : Sl} {x1 : Int} {x2 : Int} {S : HS}  {p : (Sl) × HS} (h : f x0 x1 x2 S = some p) : HCall Try.prog base W0 β0 61 [(Sl.hv x0), (.int .i64 x1), (.int .i64 x2)] S (fun v S1 => v = (Sl.hv p.1) ∧ S1 = p.2) := by
  unfold f at h
  refine HCall.of_run at_.at_ body ?_
  show HRun Try.prog base W0 β0 61 none [.code c0] ⟨[(Sl.hv x0), (.int .i64 x1), (.int .i64 x2), τ, τ, τ, τ, τ, τ, τ, τ, τ, τ, τ, τ, τ, τ, τ, τ, τ, τ, τ, τ, τ, τ, τ, τ, τ, τ, τ, τ, τ, τ], []⟩ S _
  refine q_seq rfl ?_
  refine q_region rfl rfl ?_
  refine qS 6 rfl (ok_assign · (.const fun _ => .slNil none)) ?_
  refine hr_region_end ?_
  try dsimp only [w0, w1, w2, w3]
  refine q_seq rfl ?_
  refine q_region rfl rfl ?_
  refine qS 8 rfl (ok_move · (.tmp rfl)) ?_
  refine qS 9 rfl (ok_move · (.tmp rfl)) ?_
  refine qS 10 rfl (ok_move · (.tmp rfl)) ?_
  refine qS 11 rfl (ok_move · (.tmp rfl)) ?_
  try dsimp only [w0, w1, w2, w3]
  refine qS 12 rfl (ok_len_sl (q := Sl.a x0) (n := Sl.len x0) (z := Sl.cap x0) · rfl tu43 (.tmp rfl)) ?_
  obtain ⟨p1, hp1, h⟩ := bindo h
  refine qS 13 rfl (ok_slice3 (kl := .i64) (kh := .i64) (s := x0) (l := x1) (h := x2) · tu43 si3 (.tmp rfl) (.inr ⟨_, rfl, (.tmp rfl)⟩) (.inr ⟨_, rfl, (.tmp rfl)⟩) (.tmp rfl) hp1) ?_
  refine hr_region_end ?_
  try dsimp only [w0, w1, w2, w3]
  refine q_seq rfl ?_
  refine q_seq rfl ?_
  refine q_region rfl rfl ?_
  refine qS 14 rfl (ok_move · (.tmp rfl)) ?_
  refine qS 15 rfl (ok_move · (.tmp rfl)) ?_
  refine qS 16 rfl (ok_ibin · (.tmp rfl) (.tmp rfl) rfl) ?_
  refine hr_region_end ?_
  try dsimp only [w0, w1, w2, w3]
  rcases ifc h with ⟨hc2, h⟩ | ⟨hc2, h⟩
  · refine q_cond_t rfl (.tmp rfl) (decide_eq_true hc2) ?_
    refine q_seq rfl ?_
    refine q_region rfl rfl ?_
    refine qS 17 rfl (ok_move · (.tmp rfl)) ?_
    refine qS 6 rfl (ok_assign · (.tmp rfl)) ?_
    refine hr_region_end ?_
    try dsimp only [w0, w1, w2, w3]
    cases h
    exact q_ret rfl at_.at_ rfl (res1 rfl rfl) ⟨rfl, rfl⟩
  · refine q_cond_f rfl (.tmp rfl) (decide_eq_false hc2) ?_
    refine q_skipc rfl ?_
    refine q_seq rfl ?_
    refine q_region rfl rfl ?_
    refine qS 18 rfl (ok_move · (.tmp rfl)) ?_
    refine qS 19 rfl (ok_len_sl (q := Sl.a x0) (n := Sl.len x0) (z := Sl.cap x0) · rfl tu43 (.tmp rfl)) ?_
    refine qS 7 rfl (ok_assign · (.tmp rfl)) ?_
    refine hr_region_end ?_
    try dsimp only [w0, w1, w2, w3]
    refine q_seq rfl ?_
    refine x_start (cls := [0, 0, 1, 0, 0, 1, 2, 0]) (rk := [0, 1, 2, 3, 4, 5, 6, 7]) rfl (by kernel_rfl) ?_
    refine yf 20 [0] rfl (ok_move · (.tmp rfl)) ?_
    refine yf 21 [1] rfl (ok_move · (.tmp rfl)) ?_
    obtain ⟨p3, hp3, h⟩ := bindo h
    refine yr 22 [20, 21] rfl (ok_slice (kl := .i64) (kh := .i64) (s := x0) (l := 0) (h := x1) · tu43 si3 (.tmp rfl) (.inl ⟨rfl, rfl⟩) (.inr ⟨_, rfl, (.tmp rfl)⟩) hp3) ?_
    refine yf 23 [0] rfl (ok_move · (.tmp rfl)) ?_
    try dsimp only [w0, w1, w2, w3]
    refine yf 24 [2] rfl (ok_move · (.tmp rfl)) ?_
    obtain ⟨p4, hp4, h⟩ := bindo h
    refine yr 25 [23, 24] rfl (ok_slice (kl := .i64) (kh := .i64) (s := x0) (l := x2) (h := (Sl.len x0 : Int)) · tu43 si3 (.tmp rfl) (.inr ⟨_, rfl, (.tmp rfl)⟩) (.inl ⟨rfl, rfl⟩) hp4) ?_
    obtain ⟨p5, hp5, h⟩ := bindo h
    obtain ⟨p6, hp6, h⟩ := bindo h
    refine ye 26 [22, 25] rfl (ok_append (s := p3) (s1 := p4) el43 · rfl rfl ⟨_, tu43⟩ (.tmp rfl) (.tmp rfl) hp5 hp6) ?_
    refine yf 0 [26] rfl (ok_assign · (.tmp rfl)) ?_
    refine x_rest rfl ?_
    refine hr_region_end ?_
    try dsimp only [w0, w1, w2, w3]
    refine q_seq rfl ?_
    refine q_region rfl rfl ?_
    refine qS 27 rfl (ok_move · (.tmp rfl)) ?_
    refine qS 28 rfl (ok_move · (.tmp rfl)) ?_
    refine qS 29 rfl (ok_len_sl (q := Sl.a (p6.1)) (n := Sl.len (p6.1)) (z := Sl.cap (p6.1)) · rfl tu43 (.tmp rfl)) ?_
    refine qS 30 rfl (ok_move · (.tmp rfl)) ?_
    try dsimp only [w0, w1, w2, w3]
    obtain ⟨p7, hp7, h⟩ := bindo h
    refine qS 31 rfl (ok_slice (kl := .i64) (kh := .i64) (s := (p6.1)) (l := (Sl.len (p6.1) : Int)) (h := (Sl.len x0 : Int)) · tu43 si3 (.tmp rfl) (.inr ⟨_, rfl, (.tmp rfl)⟩) (.inr ⟨_, rfl, (.tmp rfl)⟩) hp7) ?_
    obtain ⟨p8, hp8, h⟩ := bindo h
    refine qN rfl (ok_clear (s := p7) el43 · rfl (.tmp rfl) hp8) ?_
    refine hr_region_end ?_
    try dsimp only [w0, w1, w2, w3]
    refine q_seq rfl ?_
    refine q_region rfl rfl ?_
    refine qS 32 rfl (ok_move · (.tmp rfl)) ?_
    refine qS 6 rfl (ok_assign · (.tmp rfl)) ?_
    refine hr_region_end ?_
    try dsimp only [w0, w1, w2, w3]
    cases h
    exact q_ret rfl at_.at_ rfl (res1 rfl rfl) ⟨rfl, rfl⟩
end
end slices_Delete_int_int
namespace slices_Delete_int_int_w
theorem at_ : FnAt Try.prog 61 Try.f61 := slices_Delete_int_int.at_
theorem body : Try.f61.body = some slices_Delete_int_int.c0 := slices_Delete_int_int.body
def f (x0 : Sl) (x1 : Int) (x2 : Int) (S : HS) : Option ((Sl) × HS) := HS.del S x0 x1 x2 1
theorem snd {base : Nat} {W0 : World} {β0 : Bt} {x0 : Sl} {x1 x2 : Int} {S : HS} {p : (Sl) × HS} (h : f x0 x1 x2 S = some p) : HCall Try.prog base W0 β0 61 [(Sl.hv x0), (.int .i64 x1), (.int .i64 x2)] S (fun v S1 => v = (Sl.hv p.1) ∧ S1 = p.2) :=
  del_snd (zr := [(.int .i64 0)]) (fun _ _ _ h => slices_Delete_int_int.snd h) h
end slices_Delete_int_int_w
namespace set_Set_int_Remove
theorem at_ : FnAt Try.prog 46 Try.f46 := ⟨Try.func46, by kernel_rfl⟩
noncomputable def d0 := (Try.f46.body).getD .skip
noncomputable def r1 := kR (kA d0)
noncomputable def r3 := kR (kA (kB d0))
noncomputable def r6 := kR (kA (kA (kB (kB d0))))
noncomputable def r9 := kR (kA (kA (kB (kA (kB (kB d0))))))
noncomputable def d12 := kB (kB (kB d0))
noncomputable def r14 := kR (kA (kA d12))
noncomputable def d16 := kA (kB (kA d12))
noncomputable def r18 := kR (kA (kA d16))
noncomputable def d23 := kB (kB (kA d16))
noncomputable def r26 := kR (kA (kA (kA d23)))
noncomputable def d27 := kB (kA (kA d23))
noncomputable def r28 := kR (kA d27)
noncomputable def r30 := kR (kA (kB d27))
noncomputable def r33 := kR (kA (kA (kB (kB d27))))
noncomputable def r34 := kR (kB (kA (kB (kB d27))))
noncomputable def r36 := kR (kB d23)
noncomputable def r38 := kR (kA (kB d12))
noncomputable def c37 : Code := .seq (.region 12 r38 false) .ret
noncomputable def c36 : Code := .region 11 r36 false
noncomputable def c17 : Code := .seq (.region 5 r18 false) (.seq (.cond (.tmp 15) .skip (.exit 0)) (.seq (.block 1 (.seq (.region 6 r26 false) (.seq (.region 7 r28 false) (.seq (.region 8 r30 false) (.cond (.tmp 27) (.seq (.region 9 r33 false) (.region 10 r34 false)) .skip))))) c36))
noncomputable def c0 : Code := .seq (.region 0 r1 false) (.seq (.region 1 r3 false) (.seq (.seq (.region 2 r6 false) (.cond (.tmp 11) (.seq (.region 3 r9 false) .ret) .skip)) (.seq (.seq (.region 4 r14 false) (.block 0 (.loop c17))) c37)))
theorem body : Try.f46.body = some c0 := by kernel_rfl
section
variable {base : Nat} {W0 : World} {β0 : Bt}
def J1 (k : Nat) (rec0 : (Option HA) → Int → Sl → Int → Int → HS → Option ((Int) × HS)) (y0 : (Option HA)) (y5 : Int) (y12 : Sl) (y13 : Int) (y14 : Int) (S : HS) : Option ((Int) × HS) :=
  rec0 y0 y5 y12 y13 (w64 (y14 + 1)) S
theorem J1_snd {k : Nat} {rec0 : (Option HA) → Int → Sl → Int → Int → HS → Option ((Int) × HS)} (hrec0 : ∀ ⦃y0 : (Option HA)⦄ ⦃y5 : Int⦄ ⦃y12 : Sl⦄ ⦃y13 : Int⦄ ⦃y14 : Int⦄ ⦃S : HS⦄ ⦃p : (Int) × HS⦄ ⦃g1 g2 g3 g4 g6 g7 g8 g9 g10 g11 g15 g16 g17 g18 g19 g20 g21 g22 g23 g24 g25 g26 g27 g28 g29 g30 g31 g32 g33 g34 g35 g36 g37 g38 g39 g40 g41 g42 : HV⦄, rec0 y0 y5 y12 y13 y14 S = some p → HRun Try.prog base W0 β0 46 none [.inLoop c17, .inBlock 0, .code c37] ⟨[(.ptr y0), g1, g2, g3, g4, (.int .i64 y5), g6, g7, g8, g9, g10, g11, (Sl.hv y12), (.int .i64 y13), (.int .i64 y14), g15, g16, g17, g18, g19, g20, g21, g22, g23, g24, g25, g26, g27, g28, g29, g30, g31, g32, g33, g34, g35, g36, g37, g38, g39, g40, g41, g42], []⟩ S (fun v S1 => v = (.int .i64 p.1) ∧ S1 = p.2)) {y0 : (Option HA)} {y5 : Int} {y12 : Sl} {y13 : Int} {y14 : Int} {S : HS} {p : (Int) × HS} {g1 g2 g3 g4 g6 g7 g8 g9 g10 g11 g15 g16 g17 g18 g19 g20 g21 g22 g23 g24 g25 g26 g27 g28 g29 g30 g31 g32 g33 g34 g35 g36 g37 g38 g39 g40 g41 g42 : HV} (h : J1 k rec0 y0 y5 y12 y13 y14 S = some p) : HRun Try.prog base W0 β0 46 none [.code c36, .inLoop c17, .inBlock 0, .code c37] ⟨[(.ptr y0), g1, g2, g3, g4, (.int .i64 y5), g6, g7, g8, g9, g10, g11, (Sl.hv y12), (.int .i64 y13), (.int .i64 y14), g15, g16, g17, g18, g19, g20, g21, g22, g23, g24, g25, g26, g27, g28, g29, g30, g31, g32, g33, g34, g35, g36, g37, g38, g39, g40, g41, g42], []⟩ S (fun v S1 => v = (.int .i64 p.1) ∧ S1 = p.2) := by
  unfold J1 at h
  refine q_region rfl rfl ?_
  refine qS 41 rfl (ok_ibin · (.tmp rfl) (.int _ _) rfl) ?_
  refine qS 14 rfl (ok_move · (.tmp rfl)) ?_
  refine hr_region_end ?_
  try dsimp only [w0, w1, w2, w3]
  try dsimp only [w0, w1, w2, w3]
  exact hrec0 h
def L0 (k : Nat) : Nat → (Option HA) → Int → Sl → Int → Int → HS → Option ((Int) × HS)
  | 0, _, _, _, _, _, _ => none
  | n + 1, y0, y5, y12, y13, y14, S =>
    (if y14 < y13 then
    (Option.bind (HS.idx S y12 y14 1) fun p3 =>
    (Option.bind (HS.ldI S .i64 p3) fun p4 =>
    (Option.bind (y0) fun p5 =>
    (Option.bind (HS.ldSl S (HA.fld p5 0)) fun p6 =>
    (Option.bind (slices_BinarySearch_int_int.f k p6 p4 S) fun p7 =>
    (if p7.1.2 = true then
    (Option.bind (y0) fun p9 =>
    (Option.bind (HS.ldSl p7.2 (HA.fld p9 0)) fun p10 =>
    (Option.bind (slices_Delete_int_int_w.f p10 p7.1.1 (w64 (p7.1.1 + 1)) p7.2) fun p11 =>
    (Option.bind (y0) fun p12 =>
    (Option.bind (HS.sets p11.2 (HA.fld p12 0) [(Sl.hv p11.1)]) fun p13 =>
    J1 k (L0 k n) y0 (w64 (y5 + 1)) y12 y13 y14 p13))))) else
    J1 k (L0 k n) y0 y5 y12 y13 y14 p7.2)))))) else
    some (y5, S))
theorem L0_snd {k : Nat}  : ∀ {n : Nat} ⦃y0 : (Option HA)⦄ ⦃y5 : Int⦄ ⦃y12 : Sl⦄ ⦃y13 : Int⦄ ⦃y14 : Int⦄ ⦃S : HS⦄ ⦃p : (Int) × HS⦄ ⦃g1 g2 g3 g4 g6 g7 g8 g9 g10 g11 g15 g16 g17 g18 g19 g20 g21 g22 g23 g24 g25 g26 g27 g28 g29 g30 g31 g32 g33 g34 g35 g36 g37 g38 g39 g40 g41 g42 : HV⦄, L0 k n y0 y5 y12 y13 y14 S = some p → HRun Try.prog base W0 β0 46 none [.inLoop c17, .inBlock 0, .code c37] ⟨[(.ptr y0), g1, g2, g3, g4, (.int .i64 y5), g6, g7, g8, g9, g10, g11, (Sl.hv y12), (.int .i64 y13), (.int .i64 y14), g15, g16, g17, g18, g19, g20, g21, g22, g23, g24, g25, g26, g27, g28, g29, g30, g31, g32, g33, g34, g35, g36, g37, g38, g39, g40, g41, g42], []⟩ S (fun v S1 => v = (.int .i64 p.1) ∧ S1 = p.2) := by
  intro n
  induction n with
  | zero => intro _ _ _ _ _ _ _ _ _ _ _ _ _ _ _ _ _ _ _ _ _ _ _ _ _ _ _ _ _ _ _ _ _ _ _ _ _ _ _ _ _ _ _ _ _ h; cases h
  | succ n ih =>
    intro y0 y5 y12 y13 y14 S p g1 g2 g3 g4 g6 g7 g8 g9 g10 g11 g15 g16 g17 g18 g19 g20 g21 g22 g23 g24 g25 g26 g27 g28 g29 g30 g31 g32 g33 g34 g35 g36 g37 g38 g39 g40 g41 g42 h
    simp only [L0] at h
    refine hr_inLoop ?_
    refine q_seq rfl ?_
    refine q_region rfl rfl ?_
    refine qS 15 rfl (ok_ibin · (.tmp rfl) (.tmp rfl) rfl) ?_
    refine hr_region_end ?_
    try dsimp only [w0, w1, w2, w3]
    refine q_seq rfl ?_
    rcases ifc h with ⟨hc2, h⟩ | ⟨hc2, h⟩
    · refine q_cond_t rfl (.tmp rfl) (decide_eq_true hc2) ?_
      refine q_skipc rfl ?_
      refine q_seq rfl ?_
      refine q_block rfl ?_
      refine q_seq rfl ?_
      refine q_region rfl rfl ?_
      obtain ⟨p3, hp3, h⟩ := bindo h
      refine qS 16 rfl (ok_indexAddr (s := y12) · tu43 sz3 (.tmp rfl) (.tmp rfl) hp3) ?_
      obtain ⟨p4, hp4, h⟩ := bindo h
      refine qS 17 rfl (ok_load_s · sc3 (.tmp rfl) rfl (ldI_out hp4)) ?_
      refine qS 7 rfl (ok_assign · (.tmp rfl)) ?_
      refine hr_region_end ?_
      try dsimp only [w0, w1, w2, w3]
      refine q_seq rfl ?_
      refine q_region rfl rfl ?_
      refine qS 19 rfl (ok_move · (.tmp rfl)) ?_
      obtain ⟨p5, hp5, h⟩ := bindo h
      refine qS 20 rfl (ok_nilCheck_p · (.tmp rfl) hp5) ?_
      refine qS 21 rfl (ok_fieldAddr_s · fi99_0 (by decide) (.tmp rfl) rfl) ?_
      obtain ⟨p6, hp6, h⟩ := bindo h
      refine qS 22 rfl (ok_load_s · sc43 (.tmp rfl) rfl (ldSl_out hp6)) ?_
      try dsimp only [w0, w1, w2, w3]
      refine qS 23 rfl (ok_move · (.tmp rfl)) ?_
      obtain ⟨p7, hp7, h⟩ := bindo h
      refine q_call (dst := some 24) rfl (.func _) (.cons (.tmp rfl) (.cons (.tmp rfl) Evs.nil)) (HInv.static slices_BinarySearch_int_int.at_ slices_BinarySearch_int_int.body (slices_BinarySearch_int_int.snd  hp7)) ?_
      rintro _ _ ⟨rfl, rfl⟩
      refine qS 18 rfl (ok_move · (.tmp rfl)) ?_
      refine qS 25 rfl (ok_extract · (.tmp rfl) rfl) ?_
      try dsimp only [w0, w1, w2, w3]
      refine qS 26 rfl (ok_extract · (.tmp rfl) rfl) ?_
      refine qS 8 rfl (ok_assign · (.tmp rfl)) ?_
      refine qS 9 rfl (ok_assign · (.tmp rfl)) ?_
      refine hr_region_end ?_
      try dsimp only [w0, w1, w2, w3]
      refine q_seq rfl ?_
      refine q_region rfl rfl ?_
      refine qS 27 rfl (ok_move · (.tmp rfl)) ?_
      refine hr_region_end ?_
      try dsimp only [w0, w1, w2, w3]
      rcases ifc h with ⟨hc8, h⟩ | ⟨hc8, h⟩
      · refine q_cond_t rfl (.tmp rfl) hc8 ?_
        refine q_seq rfl ?_
        refine q_region rfl rfl ?_
        refine qS 28 rfl (ok_move · (.tmp rfl)) ?_
        refine qS 29 rfl (ok_move · (.tmp rfl)) ?_
        obtain ⟨p9, hp9, h⟩ := bindo h
        refine qS 30 rfl (ok_nilCheck_p · (.tmp rfl) hp9) ?_
        refine qS 31 rfl (ok_fieldAddr_s · fi99_0 (by decide) (.tmp rfl) rfl) ?_
        try dsimp only [w0, w1, w2, w3]
        obtain ⟨p10, hp10, h⟩ := bindo h
        refine qS 32 rfl (ok_load_s · sc43 (.tmp rfl) rfl (ldSl_out hp10)) ?_
        refine qS 33 rfl (ok_move · (.tmp rfl)) ?_
        refine qS 34 rfl (ok_move · (.tmp rfl)) ?_
        refine qS 35 rfl (ok_ibin · (.tmp rfl) (.int _ _) rfl) ?_
        try dsimp only [w0, w1, w2, w3]
        obtain ⟨p11, hp11, h⟩ := bindo h
        refine q_call (dst := some 36) rfl (.func _) (.cons (.tmp rfl) (.cons (.tmp rfl) (.cons (.tmp rfl) Evs.nil))) (HInv.static slices_Delete_int_int_w.at_ slices_Delete_int_int_w.body (slices_Delete_int_int_w.snd  hp11)) ?_
        rintro _ _ ⟨rfl, rfl⟩
        obtain ⟨p12, hp12, h⟩ := bindo h
        refine qS 37 rfl (ok_nilCheck_p · (.tmp rfl) hp12) ?_
        refine qS 38 rfl (ok_fieldAddr_s · fi99_0 (by decide) (.tmp rfl) rfl) ?_
        obtain ⟨p13, hp13, h⟩ := bindo h
        refine qN rfl (ok_store_s (v := (Sl.hv p11.1)) · sz43 (.tmp rfl) rfl (.tmp rfl) rfl hp13) ?_
        refine hr_region_end ?_
        try dsimp only [w0, w1, w2, w3]
        refine q_region rfl rfl ?_
        refine qS 39 rfl (ok_move · (.tmp rfl)) ?_
        refine qS 40 rfl (ok_ibin · (.tmp rfl) (.int _ _) rfl) ?_
        refine qS 5 rfl (ok_assign · (.tmp rfl)) ?_
        refine hr_region_end ?_
        try dsimp only [w0, w1, w2, w3]
        refine hr_inBlock ?_
        try dsimp only [w0, w1, w2, w3]
        exact J1_snd ih h
      · refine q_cond_f rfl (.tmp rfl) (bfalse hc8) ?_
        refine q_skipc rfl ?_
        refine hr_inBlock ?_
        try dsimp only [w0, w1, w2, w3]
        exact J1_snd ih h
    · refine q_cond_f rfl (.tmp rfl) (decide_eq_false hc2) ?_
      refine q_exit rfl rfl ?_
      refine q_seq rfl ?_
      refine q_region rfl rfl ?_
      refine qS 42 rfl (ok_move · (.tmp rfl)) ?_
      refine qS 4 rfl (ok_assign · (.tmp rfl)) ?_
      refine hr_region_end ?_
      try dsimp only [w0, w1, w2, w3]
      cases h
      exact q_ret rfl at_.at_ rfl (res1 rfl rfl) ⟨rfl, rfl⟩
def f (k : Nat) (x0 : (Option HA)) (x1 : Sl) (S : HS) : Option ((Int) × HS) :=
  (if (Option.isNone x0) = true then
  some (0, S) else
  L0 k k x0 0 x1 (Sl.len x1 : Int) 0 S)
theorem snd {k : Nat} {x0 : (Option HA)} {x1 : Sl} {S : HS}  {p : (Int) × HS} (h : f k x0 x1 S = some p) : HCall Try.prog base W0 β0 46 [(.ptr x0), (Sl.hv x1)] S (fun v S1 => v = (.int .i64 p.1) ∧ S1 = p.2) := by
  unfold f at h
  refine HCall.of_run at_.at_ body ?_
  show HRun Try.prog base W0 β0 46 none [.code c0] ⟨[(.ptr x0), (Sl.hv x1), τ, τ, τ, τ, τ, τ, τ, τ, τ, τ, τ, τ, τ, τ, τ, τ, τ, τ, τ, τ, τ, τ, τ, τ, τ, τ, τ, τ, τ, τ, τ, τ, τ, τ, τ, τ, τ, τ, τ, τ, τ], []⟩ S _
  refine q_seq rfl ?_
  refine q_region rfl rfl ?_
  refine qS 4 rfl (ok_assign · (.int _ _)) ?_
  refine hr_region_end ?_
  try dsimp only [w0, w1, w2, w3]
  refine q_seq rfl ?_
  refine q_region rfl rfl ?_
  refine qS 5 rfl (ok_assign · (.int _ _)) ?_
  refine hr_region_end ?_
  try dsimp only [w0, w1, w2, w3]
  refine q_seq rfl ?_
  refine q_seq rfl ?_
  refine q_region rfl rfl ?_
  refine qS 10 rfl (ok_move · (.tmp rfl)) ?_
  refine qS 11 rfl (ok_nil_ptr · tu83 (.tmp rfl) (.inl ⟨rfl, rfl⟩)) ?_
  refine hr_region_end ?_
  try dsimp only [w0, w1, w2, w3]
  rcases ifc h with ⟨hc1, h⟩ | ⟨hc1, h⟩
  · refine q_cond_t rfl (.tmp rfl) hc1 ?_
    refine q_seq rfl ?_
    refine q_region rfl rfl ?_
    refine qS 4 rfl (ok_assign · (.int _ _)) ?_
    refine hr_region_end ?_
    try dsimp only [w0, w1, w2, w3]
    cases h
    exact q_ret rfl at_.at_ rfl (res1 rfl rfl) ⟨rfl, rfl⟩
  · refine q_cond_f rfl (.tmp rfl) (bfalse hc1) ?_
    refine q_skipc rfl ?_
    refine q_seq rfl ?_
    refine q_seq rfl ?_
    refine q_region rfl rfl ?_
    refine qS 12 rfl (ok_move · (.tmp rfl)) ?_
    refine qS 13 rfl (ok_len_sl (q := Sl.a x1) (n := Sl.len x1) (z := Sl.cap x1) · rfl tu43 (.tmp rfl)) ?_
    refine qS 14 rfl (ok_move · (.int _ _)) ?_
    refine hr_region_end ?_
    try dsimp only [w0, w1, w2, w3]
    refine q_block rfl ?_
    refine q_loop rfl ?_
    try dsimp only [w0, w1, w2, w3]
    exact L0_snd  h
end
end set_Set_int_Remove
namespace pair_take_int_int
theorem at_ : FnAt Try.prog 44 Try.f44 := ⟨Try.func44, by kernel_rfl⟩
noncomputable def d0 := (Try.f44.body).getD .skip
noncomputable def r1 := kR (kA d0)
noncomputable def r3 := kR (kA (kB d0))
noncomputable def r5 := kR (kA (kB (kB d0)))
noncomputable def c0 : Code := .seq (.region 0 r1 false) (.seq (.region 1 r3 false) (.cond (.tmp 16) (.region 2 r5 false) .skip))
theorem body : Try.f44.body = some c0 := by kernel_rfl
section
variable {base : Nat} {W0 : World} {β0 : Bt}
def J0 (k : Nat) (S : HS) : Option ((Unit) × HS) :=
  some ((), S)
theorem J0_snd {k : Nat}  {S : HS} {p : (Unit) × HS} {g0 g1 g2 g3 g4 g5 g6 g7 g8 g9 g10 g11 g12 g13 g14 g15 g16 g17 g18 : HV} (h : J0 k S = some p) : HRun Try.prog base W0 β0 44 none [] ⟨[g0, g1, g2, g3, g4, g5, g6, g7, g8, g9, g10, g11, g12, g13, g14, g15, g16, g17, g18], []⟩ S (fun v S1 => v = (.tup []) ∧ S1 = p.2) := by
  unfold J0 at h
  cases h
  exact q_end at_.at_ rfl (res0 rfl) ⟨rfl, rfl⟩
def f (k : Nat) (x0 : (Option Nat)) (x1 : Int) (x2 : Int) (S : HS) : Option ((Unit) × HS) :=
  (Option.bind (HS.look S x0 (.int .i64 x1)) fun p1 =>
  (Option.bind (dP (Option.getD p1 (.ptr none))) fun p2 =>
  (letv (HS.lit S [[(.int .i64 x2)]] 1) fun p3 =>
  (Option.bind (set_Set_int_Remove.f k p2 (p3.1) (p3.2)) fun p4 =>
  (Option.bind (HS.look p4.2 x0 (.int .i64 x1)) fun p5 =>
  (Option.bind (dP (Option.getD p5 (.ptr none))) fun p6 =>
  (Option.bind (set_Set_int_Len.f p6 p4.2) fun p7 =>
  (if p7.1 = 0 then
  (Option.bind (HS.mdel p7.2 x0 (.int .i64 x1)) fun p9 =>
  J0 k p9) else
  J0 k p7.2))))))))
theorem snd {k : Nat} {x0 : (Option Nat)} {x1 : Int} {x2 : Int} {S : HS}  {p : (Unit) × HS} (h : f k x0 x1 x2 S = some p) : HCall Try.prog base W0 β0 44 [(.map x0), (.int .i64 x1), (.int .i64 x2)] S (fun v S1 => v = (.tup []) ∧ S1 = p.2) := by
  unfold f at h
  refine HCall.of_run at_.at_ body ?_
  show HRun Try.prog base W0 β0 44 none [.code c0] ⟨[(.map x0), (.int .i64 x1), (.int .i64 x2), τ, τ, τ, τ, τ, τ, τ, τ, τ, τ, τ, τ, τ, τ, τ, τ], []⟩ S _
  refine q_seq rfl ?_
  refine q_region rfl rfl ?_
  refine qS 6 rfl (ok_move · (.tmp rfl)) ?_
  refine qS 7 rfl (ok_move · (.tmp rfl)) ?_
  obtain ⟨p1, hp1, h⟩ := bindo h
  obtain ⟨p2, hp2, h⟩ := bindo h
  refine qS 8 rfl (ok_lookup · tu78 zi83 (fun β => .ptrNil) (keyInt tu3) (.tmp rfl) (.tmp rfl) hp1 (dP_out hp2)) ?_
  refine qS 9 rfl (ok_move · (.tmp rfl)) ?_
  try dsimp only [w0, w1, w2, w3]
  obtain ⟨p3, hp3, h⟩ := leto h
  refine qS 10 rfl (ok_buildSlice_s (xs := [(.tmp 9)]) el43 · rfl rfl (by decide) (.cons (.tmp rfl) Evs.nil) rfl rfl hp3) ?_
  obtain ⟨p4, hp4, h⟩ := bindo h
  refine q_call (dst := some 11) rfl (.func _) (.cons (.tmp rfl) (.cons (.tmp rfl) Evs.nil)) (HInv.static set_Set_int_Remove.at_ set_Set_int_Remove.body (set_Set_int_Remove.snd  hp4)) ?_
  rintro _ _ ⟨rfl, rfl⟩
  refine hr_region_end ?_
  try dsimp only [w0, w1, w2, w3]
  refine q_seq rfl ?_
  refine q_region rfl rfl ?_
  refine qS 12 rfl (ok_move · (.tmp rfl)) ?_
  refine qS 13 rfl (ok_move · (.tmp rfl)) ?_
  obtain ⟨p5, hp5, h⟩ := bindo h
  obtain ⟨p6, hp6, h⟩ := bindo h
  refine qS 14 rfl (ok_lookup · tu78 zi83 (fun β => .ptrNil) (keyInt tu3) (.tmp rfl) (.tmp rfl) hp5 (dP_out hp6)) ?_
  obtain ⟨p7, hp7, h⟩ := bindo h
  refine q_call (dst := some 15) rfl (.func _) (.cons (.tmp rfl) Evs.nil) (HInv.static set_Set_int_Len.at_ set_Set_int_Len.body (set_Set_int_Len.snd  hp7)) ?_
  rintro _ _ ⟨rfl, rfl⟩
  try dsimp only [w0, w1, w2, w3]
  refine qS 16 rfl (ok_ibin · (.tmp rfl) (.int _ _) rfl) ?_
  refine hr_region_end ?_
  try dsimp only [w0, w1, w2, w3]
  rcases ifc h with ⟨hc8, h⟩ | ⟨hc8, h⟩
  · refine q_cond_t rfl (.tmp rfl) (decide_eq_true hc8) ?_
    refine q_region rfl rfl ?_
    refine qS 17 rfl (ok_move · (.tmp rfl)) ?_
    refine qS 18 rfl (ok_move · (.tmp rfl)) ?_
    obtain ⟨p9, hp9, h⟩ := bindo h
    refine qN rfl (ok_delete · rfl tu78 (keyInt tu3) (.tmp rfl) (.tmp rfl) hp9) ?_
    refine hr_region_end ?_
    try dsimp only [w0, w1, w2, w3]
    try dsimp only [w0, w1, w2, w3]
    exact J0_snd  h
  · refine q_cond_f rfl (.tmp rfl) (decide_eq_false hc8) ?_
    refine q_skipc rfl ?_
    try dsimp only [w0, w1, w2, w3]
    exact J0_snd  h
end
end pair_take_int_int
namespace pair_Rel_int_int_Remove
theorem at_ : FnAt Try.prog 29 Try.f29 := ⟨Try.func29, by kernel_rfl⟩
noncomputable def d0 := (Try.f29.body).getD .skip
noncomputable def r1 := kR (kA d0)
noncomputable def r4 := kR (kA (kA (kB d0)))
noncomputable def r7 := kR (kA (kA (kB (kA (kB d0)))))
noncomputable def r11 := kR (kA (kB (kB d0)))
noncomputable def r13 := kR (kA (kB (kB (kB d0))))
noncomputable def r15 := kR (kA (kB (kB (kB (kB d0)))))
noncomputable def r17 := kR (kA (kB (kB (kB (kB (kB d0))))))
noncomputable def c0 : Code := .seq (.region 0 r1 false) (.seq (.seq (.region 1 r4 false) (.cond (.tmp 11) (.seq (.region 2 r7 false) .ret) .skip)) (.seq (.region 3 r11 false) (.seq (.region 4 r13 false) (.seq (.region 5 r15 false) (.seq (.region 6 r17 false) .ret)))))
theorem body : Try.f29.body = some c0 := by kernel_rfl
section
variable {base : Nat} {W0 : World} {β0 : Bt}
def f (k : Nat) (x0 : (Option HA)) (x1 : Int) (x2 : Int) (S : HS) : Option ((Bool) × HS) :=
  (Option.bind (pair_Rel_int_int_Has.f k x0 x1 x2 S) fun p1 =>
  (if (!p1.1) = true then
  some (false, p1.2) else
  (Option.bind (x0) fun p3 =>
  (Option.bind (HS.ldM p1.2 (HA.fld p3 2)) fun p4 =>
  (Option.bind (pair_take_int_int.f k p4 x1 x2 p1.2) fun p5 =>
  (Option.bind (x0) fun p6 =>
  (Option.bind (HS.ldM p5.2 (HA.fld p6 3)) fun p7 =>
  (Option.bind (pair_take_int_int.f k p7 x2 x1 p5.2) fun p8 =>
  (Option.bind (x0) fun p9 =>
  (Option.bind (HS.ldI p8.2 .i64 (HA.fld p9 1)) fun p10 =>
  (Option.bind (x0) fun p11 =>
  (Option.bind (HS.sets p8.2 (HA.fld p11 1) [(.int .i64 (w64 (p10 - 1)))]) fun p12 =>
  some (true, p12)))))))))))))
theorem snd {k : Nat} {x0 : (Option HA)} {x1 : Int} {x2 : Int} {S : HS}  {p : (Bool) × HS} (h : f k x0 x1 x2 S = some p) : HCall Try.prog base W0 β0 29 [(.ptr x0), (.int .i64 x1), (.int .i64 x2)] S (fun v S1 => v = (.bool p.1) ∧ S1 = p.2) := by
  unfold f at h
  refine HCall.of_run at_.at_ body ?_
  show HRun Try.prog base W0 β0 29 none [.code c0] ⟨[(.ptr x0), (.int .i64 x1), (.int .i64 x2), τ, τ, τ, τ, τ, τ, τ, τ, τ, τ, τ, τ, τ, τ, τ, τ, τ, τ, τ, τ, τ, τ, τ, τ, τ, τ, τ, τ, τ, τ], []⟩ S _
  refine q_seq rfl ?_
  refine q_region rfl rfl ?_
  refine qS 6 rfl (ok_assign · (.bool _)) ?_
  refine hr_region_end ?_
  try dsimp only [w0, w1, w2, w3]
  refine q_seq rfl ?_
  refine q_seq rfl ?_
  refine q_region rfl rfl ?_
  refine qS 7 rfl (ok_move · (.tmp rfl)) ?_
  refine qS 8 rfl (ok_move · (.tmp rfl)) ?_
  refine qS 9 rfl (ok_move · (.tmp rfl)) ?_
  obtain ⟨p1, hp1, h⟩ := bindo h
  refine q_call (dst := some 10) rfl (.func _) (.cons (.tmp rfl) (.cons (.tmp rfl) (.cons (.tmp rfl) Evs.nil))) (HInv.static pair_Rel_int_int_Has.at_ pair_Rel_int_int_Has.body (pair_Rel_int_int_Has.snd  hp1)) ?_
  rintro _ _ ⟨rfl, rfl⟩
  try dsimp only [w0, w1, w2, w3]
  refine qS 11 rfl (ok_not · (.tmp rfl)) ?_
  refine hr_region_end ?_
  try dsimp only [w0, w1, w2, w3]
  rcases ifc h with ⟨hc2, h⟩ | ⟨hc2, h⟩
  · refine q_cond_t rfl (.tmp rfl) hc2 ?_
    refine q_seq rfl ?_
    refine q_region rfl rfl ?_
    refine qS 6 rfl (ok_assign · (.bool _)) ?_
    refine hr_region_end ?_
    try dsimp only [w0, w1, w2, w3]
    cases h
    exact q_ret rfl at_.at_ rfl (res1 rfl rfl) ⟨rfl, rfl⟩
  · refine q_cond_f rfl (.tmp rfl) (bfalse hc2) ?_
    refine q_skipc rfl ?_
    refine q_seq rfl ?_
    refine q_region rfl rfl ?_
    refine qS 12 rfl (ok_move · (.tmp rfl)) ?_
    obtain ⟨p3, hp3, h⟩ := bindo h
    refine qS 13 rfl (ok_nilCheck_p · (.tmp rfl) hp3) ?_
    refine qS 14 rfl (ok_fieldAddr_s · fi80_2 (by decide) (.tmp rfl) rfl) ?_
    obtain ⟨p4, hp4, h⟩ := bindo h
    refine qS 15 rfl (ok_load_s · sc78 (.tmp rfl) rfl (ldM_out hp4)) ?_
    try dsimp only [w0, w1, w2, w3]
    refine qS 16 rfl (ok_move · (.tmp rfl)) ?_
    refine qS 17 rfl (ok_move · (.tmp rfl)) ?_
    obtain ⟨p5, hp5, h⟩ := bindo h
    refine q_call (dst := some 18) rfl (.func _) (.cons (.tmp rfl) (.cons (.tmp rfl) (.cons (.tmp rfl) Evs.nil))) (HInv.static pair_take_int_int.at_ pair_take_int_int.body (pair_take_int_int.snd  hp5)) ?_
    rintro _ _ ⟨rfl, rfl⟩
    refine hr_region_end ?_
    try dsimp only [w0, w1, w2, w3]
    refine q_seq rfl ?_
    refine q_region rfl rfl ?_
    refine qS 19 rfl (ok_move · (.tmp rfl)) ?_
    obtain ⟨p6, hp6, h⟩ := bindo h
    refine qS 20 rfl (ok_nilCheck_p · (.tmp rfl) hp6) ?_
    refine qS 21 rfl (ok_fieldAddr_s · fi80_3 (by decide) (.tmp rfl) rfl) ?_
    obtain ⟨p7, hp7, h⟩ := bindo h
    refine qS 22 rfl (ok_load_s · sc78 (.tmp rfl) rfl (ldM_out hp7)) ?_
    try dsimp only [w0, w1, w2, w3]
    refine qS 23 rfl (ok_move · (.tmp rfl)) ?_
    refine qS 24 rfl (ok_move · (.tmp rfl)) ?_
    obtain ⟨p8, hp8, h⟩ := bindo h
    refine q_call (dst := some 25) rfl (.func _) (.cons (.tmp rfl) (.cons (.tmp rfl) (.cons (.tmp rfl) Evs.nil))) (HInv.static pair_take_int_int.at_ pair_take_int_int.body (pair_take_int_int.snd  hp8)) ?_
    rintro _ _ ⟨rfl, rfl⟩
    refine hr_region_end ?_
    try dsimp only [w0, w1, w2, w3]
    refine q_seq rfl ?_
    refine q_region rfl rfl ?_
    refine qS 26 rfl (ok_move · (.tmp rfl)) ?_
    obtain ⟨p9, hp9, h⟩ := bindo h
    refine qS 27 rfl (ok_nilCheck_p · (.tmp rfl) hp9) ?_
    refine qS 28 rfl (ok_fieldAddr_s · fi80_1 (by decide) (.tmp rfl) rfl) ?_
    obtain ⟨p10, hp10, h⟩ := bindo h
    refine qS 29 rfl (ok_load_s · sc3 (.tmp rfl) rfl (ldI_out hp10)) ?_
    try dsimp only [w0, w1, w2, w3]
    refine qS 30 rfl (ok_ibin · (.tmp rfl) (.int _ _) rfl) ?_
    obtain ⟨p11, hp11, h⟩ := bindo h
    refine qS 31 rfl (ok_nilCheck_p · (.tmp rfl) hp11) ?_
    refine qS 32 rfl (ok_fieldAddr_s · fi80_1 (by decide) (.tmp rfl) rfl) ?_
    obtain ⟨p12, hp12, h⟩ := bindo h
    refine qN rfl (ok_store_s (v := (.int .i64 (w64 (p10 - 1)))) · sz3 (.tmp rfl) rfl (.tmp rfl) rfl hp12) ?_
    refine hr_region_end ?_
    try dsimp only [w0, w1, w2, w3]
    refine q_seq rfl ?_
    refine q_region rfl rfl ?_
    refine qS 6 rfl (ok_assign · (.bool _)) ?_
    refine hr_region_end ?_
    try dsimp only [w0, w1, w2, w3]
    cases h
    exact q_ret rfl at_.at_ rfl (res1 rfl rfl) ⟨rfl, rfl⟩
end
end pair_Rel_int_int_Remove
namespace pair_Rel_int_string_Of_1
theorem at_ : FnAt Try.prog 48 Try.f48 := ⟨Try.func48, by kernel_rfl⟩
noncomputable def d0 := (Try.f48.body).getD .skip
noncomputable def c0 : Code := .skip
theorem body : Try.f48.body = some c0 := by kernel_rfl
section
variable {base : Nat} {W0 : World} {β0 : Bt}
def f (x0 : HV) : Option (Unit) :=
  some ()
theorem snd {x0 : HV} {S : HS}  {p : Unit} (h : f x0 = some p) : HCall Try.prog base W0 β0 48 [x0] S (fun v S1 => v = (.tup []) ∧ S1 = S) := by
  unfold f at h
  refine HCall.of_run at_.at_ body ?_
  show HRun Try.prog base W0 β0 48 none [.code c0] ⟨[x0, τ], []⟩ S _
  refine q_skipc rfl ?_
  cases h
  exact q_end at_.at_ rfl (res0 rfl) ⟨rfl, rfl⟩
end
end pair_Rel_int_string_Of_1
namespace slices_Clone_string_string
theorem at_ : FnAt Try.prog 73 Try.f73 := ⟨Try.func73, by kernel_rfl⟩
noncomputable def d0 := (Try.f73.body).getD .skip
noncomputable def r1 := kR (kA d0)
noncomputable def r4 := kR (kA (kA (kB d0)))
noncomputable def r7 := kR (kA (kA (kB (kA (kB d0)))))
noncomputable def r11 := kR (kA (kB (kB d0)))
noncomputable def c0 : Code := .seq (.region 0 r1 false) (.seq (.seq (.region 1 r4 false) (.cond (.tmp 4) (.seq (.region 2 r7 false) .ret) .skip)) (.seq (.region 3 r11 false) .ret))
theorem body : Try.f73.body = some c0 := by kernel_rfl
section
variable {base : Nat} {W0 : World} {β0 : Bt}
def f (x0 : Sl) (S : HS) : Option ((Sl) × HS) :=
  (if (Option.isNone (Sl.a x0)) = true then
  some (Sl.nil, S) else
  (letv (HS.lit S [] 1) fun p2 =>
  (Option.bind (HS.rows (p2.2) x0 1) fun p3 =>
  (Option.bind (HS.app (p2.2) (p2.1) p3 1) fun p4 =>
  some ((p4.1), (p4.2))))))
theorem snd {x0 : Sl} {S : HS}  {p : (Sl) × HS} (h : f x0 S = some p) : HCall Try.prog base W0 β0 73 [(Sl.hv x0)] S (fun v S1 => v = (Sl.hv p.1) ∧ S1 = p.2) := by
  unfold f at h
  refine HCall.of_run at_.at_ body ?_
  show HRun Try.prog base W0 β0 73 none [.code c0] ⟨[(Sl.hv x0), τ, τ, τ, τ, τ, τ, τ], []⟩ S _
  refine q_seq rfl ?_
  refine q_region rfl rfl ?_
  refine qS 2 rfl (ok_assign · (.const fun _ => .slNil none)) ?_
  refine hr_region_end ?_
  try dsimp only [w0, w1, w2, w3]
  refine q_seq rfl ?_
  refine q_seq rfl ?_
  refine q_region rfl rfl ?_
  refine qS 3 rfl (ok_move · (.tmp rfl)) ?_
  refine qS 4 rfl (ok_nil_sl · tu40 (.tmp rfl) (.inl ⟨rfl, rfl⟩)) ?_
  refine hr_region_end ?_
  try dsimp only [w0, w1, w2, w3]
  rcases ifc h with ⟨hc1, h⟩ | ⟨hc1, h⟩
  · refine q_cond_t rfl (.tmp rfl) hc1 ?_
    refine q_seq rfl ?_
    refine q_region rfl rfl ?_
    refine qS 2 rfl (ok_assign · (.const fun _ => .slNil none)) ?_
    refine hr_region_end ?_
    try dsimp only [w0, w1, w2, w3]
    cases h
    exact q_ret rfl at_.at_ rfl (res1 rfl rfl) ⟨rfl, rfl⟩
  · refine q_cond_f rfl (.tmp rfl) (bfalse hc1) ?_
    refine q_skipc rfl ?_
    refine q_seq rfl ?_
    refine q_region rfl rfl ?_
    obtain ⟨p2, hp2, h⟩ := leto h
    refine qS 5 rfl (ok_buildSlice_s (xs := []) el40 · rfl rfl (by decide) Evs.nil rfl rfl hp2) ?_
    refine qS 6 rfl (ok_move · (.tmp rfl)) ?_
    obtain ⟨p3, hp3, h⟩ := bindo h
    obtain ⟨p4, hp4, h⟩ := bindo h
    refine qS 7 rfl (ok_append (s := (p2.1)) (s1 := x0) el40 · rfl rfl ⟨_, tu40⟩ (.tmp rfl) (.tmp rfl) hp3 hp4) ?_
    refine qS 2 rfl (ok_assign · (.tmp rfl)) ?_
    refine hr_region_end ?_
    try dsimp only [w0, w1, w2, w3]
    cases h
    exact q_ret rfl at_.at_ rfl (res1 rfl rfl) ⟨rfl, rfl⟩
end
end slices_Clone_string_string
namespace set_Set_string_List
theorem at_ : FnAt Try.prog 63 Try.f63 := ⟨Try.func63, by kernel_rfl⟩
noncomputable def d0 := (Try.f63.body).getD .skip
noncomputable def r1 := kR (kA d0)
noncomputable def r4 := kR (kA (kA (kB d0)))
noncomputable def r7 := kR (kA (kA (kB (kA (kB d0)))))
noncomputable def r11 := kR (kA (kB (kB d0)))
noncomputable def c0 : Code := .seq (.region 0 r1 false) (.seq (.seq (.region 1 r4 false) (.cond (.tmp 4) (.seq (.region 2 r7 false) .ret) .skip)) (.seq (.region 3 r11 false) .ret))
theorem body : Try.f63.body = some c0 := by kernel_rfl
section
variable {base : Nat} {W0 : World} {β0 : Bt}
def f (x0 : (Option HA)) (S : HS) : Option ((Sl) × HS) :=
  (if (Option.isNone x0) = true then
  some (Sl.nil, S) else
  (Option.bind (x0) fun p2 =>
  (Option.bind (HS.ldSl S (HA.fld p2 0)) fun p3 =>
  (Option.bind (slices_Clone_string_string.f p3 S) fun p4 =>
  some (p4.1, p4.2)))))
theorem snd {x0 : (Option HA)} {S : HS}  {p : (Sl) × HS} (h : f x0 S = some p) : HCall Try.prog base W0 β0 63 [(.ptr x0)] S (fun v S1 => v = (Sl.hv p.1) ∧ S1 = p.2) := by
  unfold f at h
  refine HCall.of_run at_.at_ body ?_
  show HRun Try.prog base W0 β0 63 none [.code c0] ⟨[(.ptr x0), τ, τ, τ, τ, τ, τ, τ, τ, τ], []⟩ S _
  refine q_seq rfl ?_
  refine q_region rfl rfl ?_
  refine qS 2 rfl (ok_assign · (.const fun _ => .slNil none)) ?_
  refine hr_region_end ?_
  try dsimp only [w0, w1, w2, w3]
  refine q_seq rfl ?_
  refine q_seq rfl ?_
  refine q_region rfl rfl ?_
  refine qS 3 rfl (ok_move · (.tmp rfl)) ?_
  refine qS 4 rfl (ok_nil_ptr · tu75 (.tmp rfl) (.inl ⟨rfl, rfl⟩)) ?_
  refine hr_region_end ?_
  try dsimp only [w0, w1, w2, w3]
  rcases ifc h with ⟨hc1, h⟩ | ⟨hc1, h⟩
  · refine q_cond_t rfl (.tmp rfl) hc1 ?_
    refine q_seq rfl ?_
    refine q_region rfl rfl ?_
    refine qS 2 rfl (ok_assign · (.const fun _ => .slNil none)) ?_
    refine hr_region_end ?_
    try dsimp only [w0, w1, w2, w3]
    cases h
    exact q_ret rfl at_.at_ rfl (res1 rfl rfl) ⟨rfl, rfl⟩
  · refine q_cond_f rfl (.tmp rfl) (bfalse hc1) ?_
    refine q_skipc rfl ?_
    refine q_seq rfl ?_
    refine q_region rfl rfl ?_
    refine qS 5 rfl (ok_move · (.tmp rfl)) ?_
    obtain ⟨p2, hp2, h⟩ := bindo h
    refine qS 6 rfl (ok_nilCheck_p · (.tmp rfl) hp2) ?_
    refine qS 7 rfl (ok_fieldAddr_s · fi93_0 (by decide) (.tmp rfl) rfl) ?_
    obtain ⟨p3, hp3, h⟩ := bindo h
    refine qS 8 rfl (ok_load_s · sc40 (.tmp rfl) rfl (ldSl_out hp3)) ?_
    try dsimp only [w0, w1, w2, w3]
    obtain ⟨p4, hp4, h⟩ := bindo h
    refine q_call (dst := some 9) rfl (.func _) (.cons (.tmp rfl) Evs.nil) (HInv.static slices_Clone_string_string.at_ slices_Clone_string_string.body (slices_Clone_string_string.snd  hp4)) ?_
    rintro _ _ ⟨rfl, rfl⟩
    refine qS 2 rfl (ok_assign · (.tmp rfl)) ?_
    refine hr_region_end ?_
    try dsimp only [w0, w1, w2, w3]
    cases h
    exact q_ret rfl at_.at_ rfl (res1 rfl rfl) ⟨rfl, rfl⟩
end
end set_Set_string_List
namespace slices_Values_string_string_1
theorem at_ : FnAt Try.prog 72 Try.f72 := ⟨Try.func72, by kernel_rfl⟩
noncomputable def d0 := (Try.f72.body).getD .skip
noncomputable def r1 := kR (kA d0)
noncomputable def d4 := kA (kA (kB d0))
noncomputable def r5 := kR (kA d4)
noncomputable def r13 := kR (kA (kA (kA (kB (kB d4)))))
noncomputable def r15 := kR (kA (kB (kA (kA (kB (kB d4))))))
noncomputable def r19 := kR (kB (kB (kB d4)))
noncomputable def c4 : Code := .seq (.region 1 r5 false) (.seq (.cond (.tmp 8) .skip (.exit 0)) (.seq (.block 1 (.seq (.region 2 r13 false) (.seq (.region 3 r15 false) (.cond (.tmp 14) .ret .skip)))) (.region 4 r19 false)))
noncomputable def c0 : Code := .seq (.region 0 r1 false) (.block 0 (.loop c4))
theorem body : Try.f72.body = some c0 := by kernel_rfl
section
variable {base : Nat} {W0 : World} {β0 : Bt}
def L0 (D : Dp) (H : Hd) (k : Nat) : Nat → HV → Sl → Int → Int → HS → Option ((Unit) × HS)
  | 0, _, _, _, _, _ => none
  | n + 1, y0, y5, y6, y7, S =>
    (if y7 < y6 then
    (Option.bind (HS.idx S y5 y7 1) fun p4 =>
    (Option.bind (HS.ldS S p4) fun p5 =>
    (Option.bind (D H y0 [(.str p5)] S) fun p6 =>
    (Option.bind (dB p6.1) fun p7 =>
    (if (!p7) = true then
    some ((), p6.2) else
    (L0 D H k n) y0 y5 y6 (w64 (y7 + 1)) p6.2))))) else
    some ((), S))
theorem L0_snd {D : Dp} {H : Hd} {k : Nat} (hD : DSound Try.prog base W0 D) (hH : HSound Try.prog base W0 β0 H)  : ∀ {n : Nat} ⦃y0 : HV⦄ ⦃y5 : Sl⦄ ⦃y6 : Int⦄ ⦃y7 : Int⦄ ⦃S : HS⦄ ⦃p : (Unit) × HS⦄ ⦃g1 g2 g3 g4 g8 g9 g10 g11 g12 g13 g14 g15 : HV⦄, L0 D H k n y0 y5 y6 y7 S = some p → HRun Try.prog base W0 β0 72 none [.inLoop c4, .inBlock 0] ⟨[y0, g1, g2, g3, g4, (Sl.hv y5), (.int .i64 y6), (.int .i64 y7), g8, g9, g10, g11, g12, g13, g14, g15], []⟩ S (fun v S1 => v = (.tup []) ∧ S1 = p.2) := by
  intro n
  induction n with
  | zero => intro _ _ _ _ _ _ _ _ _ _ _ _ _ _ _ _ _ _ h; cases h
  | succ n ih =>
    intro y0 y5 y6 y7 S p g1 g2 g3 g4 g8 g9 g10 g11 g12 g13 g14 g15 h
    simp only [L0] at h
    refine hr_inLoop ?_
    refine q_seq rfl ?_
    refine q_region rfl rfl ?_
    refine qS 8 rfl (ok_ibin · (.tmp rfl) (.tmp rfl) rfl) ?_
    refine hr_region_end ?_
    try dsimp only [w0, w1, w2, w3]
    refine q_seq rfl ?_
    rcases ifc h with ⟨hc3, h⟩ | ⟨hc3, h⟩
    · refine q_cond_t rfl (.tmp rfl) (decide_eq_true hc3) ?_
      refine q_skipc rfl ?_
      refine q_seq rfl ?_
      refine q_block rfl ?_
      refine q_seq rfl ?_
      refine q_region rfl rfl ?_
      obtain ⟨p4, hp4, h⟩ := bindo h
      refine qS 9 rfl (ok_indexAddr (s := y5) · tu40 sz9 (.tmp rfl) (.tmp rfl) hp4) ?_
      obtain ⟨p5, hp5, h⟩ := bindo h
      refine qS 10 rfl (ok_load_s · sc9 (.tmp rfl) rfl (ldS_out hp5)) ?_
      refine qS 4 rfl (ok_assign · (.tmp rfl)) ?_
      refine hr_region_end ?_
      try dsimp only [w0, w1, w2, w3]
      refine q_seq rfl ?_
      refine q_region rfl rfl ?_
      refine qS 11 rfl (ok_move · (.tmp rfl)) ?_
      refine qS 12 rfl (ok_move · (.tmp rfl)) ?_
      obtain ⟨p6, hp6, h⟩ := bindo h
      obtain ⟨p7, hp7, h⟩ := bindo h
      refine q_call (dst := some 13) rfl (.tmp rfl) (.cons (.tmp rfl) Evs.nil) (hD _ _ hH _ _ _ _ _ hp6) ?_
      rintro _ _ ⟨rfl, rfl⟩
      rw [dB_out hp7]
      refine qS 14 rfl (ok_not · (.tmp rfl)) ?_
      refine hr_region_end ?_
      try dsimp only [w0, w1, w2, w3]
      rcases ifc h with ⟨hc8, h⟩ | ⟨hc8, h⟩
      · refine q_cond_t rfl (.tmp rfl) hc8 ?_
        cases h
        exact q_ret rfl at_.at_ rfl (res0 rfl) ⟨rfl, rfl⟩
      · refine q_cond_f rfl (.tmp rfl) (bfalse hc8) ?_
        refine q_skipc rfl ?_
        refine hr_inBlock ?_
        refine q_region rfl rfl ?_
        refine qS 15 rfl (ok_ibin · (.tmp rfl) (.int _ _) rfl) ?_
        refine qS 7 rfl (ok_move · (.tmp rfl)) ?_
        refine hr_region_end ?_
        try dsimp only [w0, w1, w2, w3]
        try dsimp only [w0, w1, w2, w3]
        exact ih h
    · refine q_cond_f rfl (.tmp rfl) (decide_eq_false hc3) ?_
      refine q_exit rfl rfl ?_
      cases h
      exact q_end at_.at_ rfl (res0 rfl) ⟨rfl, rfl⟩
def f (D : Dp) (H : Hd) (k : Nat) (x0 : HV) (x1 : (Option HA)) (S : HS) : Option ((Unit) × HS) :=
  (Option.bind (x1) fun p1 =>
  (Option.bind (HS.ldSl S p1) fun p2 =>
  L0 D H k k x0 p2 (Sl.len p2 : Int) 0 S))
theorem snd {D : Dp} {H : Hd} {k : Nat} {x0 : HV} {x1 : (Option HA)} {S : HS} (hD : DSound Try.prog base W0 D) (hH : HSound Try.prog base W0 β0 H)  {p : (Unit) × HS} (h : f D H k x0 x1 S = some p) : HCall Try.prog base W0 β0 72 [x0, (.ptr x1)] S (fun v S1 => v = (.tup []) ∧ S1 = p.2) := by
  unfold f at h
  refine HCall.of_run at_.at_ body ?_
  show HRun Try.prog base W0 β0 72 none [.code c0] ⟨[x0, (.ptr x1), τ, τ, τ, τ, τ, τ, τ, τ, τ, τ, τ, τ, τ, τ], []⟩ S _
  refine q_seq rfl ?_
  refine q_region rfl rfl ?_
  obtain ⟨p1, hp1, h⟩ := bindo h
  obtain ⟨p2, hp2, h⟩ := bindo h
  refine qS 5 rfl (ok_load_s · sc40 (.tmp rfl) hp1 (ldSl_out hp2)) ?_
  refine qS 6 rfl (ok_len_sl (q := Sl.a p2) (n := Sl.len p2) (z := Sl.cap p2) · rfl tu40 (.tmp rfl)) ?_
  refine qS 7 rfl (ok_move · (.int _ _)) ?_
  refine hr_region_end ?_
  try dsimp only [w0, w1, w2, w3]
  refine q_block rfl ?_
  refine q_loop rfl ?_
  try dsimp only [w0, w1, w2, w3]
  exact L0_snd hD hH h
end
end slices_Values_string_string_1
namespace slices_Values_string_string
theorem at_ : FnAt Try.prog 62 Try.f62 := ⟨Try.func62, by kernel_rfl⟩
noncomputable def d0 := (Try.f62.body).getD .skip
noncomputable def r1 := kR (kA d0)
noncomputable def r3 := kR (kA (kB d0))
noncomputable def c0 : Code := .seq (.region 0 r1 false) (.seq (.region 1 r3 false) .ret)
theorem body : Try.f62.body = some c0 := by kernel_rfl
section
variable {base : Nat} {W0 : World} {β0 : Bt}
def f (x0 : Sl) (S : HS) : Option ((HV) × HS) :=
  (letv (HS.new S (.cells 1 [[(Sl.hv x0)]] true)) fun p1 =>
  some ((HV.fn (.func 72) [] [(.ptr (some (HA.cell0 S.next)))]), p1))
theorem snd {x0 : Sl} {S : HS}  {p : (HV) × HS} (h : f x0 S = some p) : HCall Try.prog base W0 β0 62 [(Sl.hv x0)] S (fun v S1 => v = p.1 ∧ S1 = p.2) := by
  unfold f at h
  refine HCall.of_run at_.at_ body ?_
  show HRun Try.prog base W0 β0 62 none [.code c0] ⟨[(Sl.hv x0), τ, τ, τ], []⟩ S _
  refine q_seq rfl ?_
  refine q_region rfl rfl ?_
  obtain ⟨p1, hp1, h⟩ := leto h
  refine qS 1 rfl (ok_box_e · (.tmp rfl) (Nat.zero_lt_succ _) rfl hp1) ?_
  refine qS 2 rfl (ok_assign · (.const fun _ => .nilFn)) ?_
  refine hr_region_end ?_
  try dsimp only [w0, w1, w2, w3]
  refine q_seq rfl ?_
  refine q_region rfl rfl ?_
  refine qS 3 rfl (ok_makeFunc · Evs.nil (.cons (.tmp rfl) Evs.nil)) ?_
  refine qS 2 rfl (ok_assign · (.tmp rfl)) ?_
  refine hr_region_end ?_
  try dsimp only [w0, w1, w2, w3]
  cases h
  exact q_ret rfl at_.at_ rfl (res1 rfl rfl) ⟨rfl, rfl⟩
end
end slices_Values_string_string
namespace set_Set_string_All
theorem at_ : FnAt Try.prog 49 Try.f49 := ⟨Try.func49, by kernel_rfl⟩
noncomputable def d0 := (Try.f49.body).getD .skip
noncomputable def r1 := kR (kA d0)
noncomputable def r3 := kR (kA (kB d0))
noncomputable def c0 : Code := .seq (.region 0 r1 false) (.seq (.region 1 r3 false) .ret)
theorem body : Try.f49.body = some c0 := by kernel_rfl
section
variable {base : Nat} {W0 : World} {β0 : Bt}
def f (x0 : (Option HA)) (S : HS) : Option ((HV) × HS) :=
  (Option.bind (set_Set_string_List.f x0 S) fun p1 =>
  (Option.bind (slices_Values_string_string.f p1.1 p1.2) fun p2 =>
  some (p2.1, p2.2)))
theorem snd {x0 : (Option HA)} {S : HS}  {p : (HV) × HS} (h : f x0 S = some p) : HCall Try.prog base W0 β0 49 [(.ptr x0)] S (fun v S1 => v = p.1 ∧ S1 = p.2) := by
  unfold f at h
  refine HCall.of_run at_.at_ body ?_
  show HRun Try.prog base W0 β0 49 none [.code c0] ⟨[(.ptr x0), τ, τ, τ, τ, τ], []⟩ S _
  refine q_seq rfl ?_
  refine q_region rfl rfl ?_
  refine qS 2 rfl (ok_assign · (.const fun _ => .nilFn)) ?_
  refine hr_region_end ?_
  try dsimp only [w0, w1, w2, w3]
  refine q_seq rfl ?_
  refine q_region rfl rfl ?_
  refine qS 3 rfl (ok_move · (.tmp rfl)) ?_
  obtain ⟨p1, hp1, h⟩ := bindo h
  refine q_call (dst := some 4) rfl (.func _) (.cons (.tmp rfl) Evs.nil) (HInv.static set_Set_string_List.at_ set_Set_string_List.body (set_Set_string_List.snd  hp1)) ?_
  rintro _ _ ⟨rfl, rfl⟩
  obtain ⟨p2, hp2, h⟩ := bindo h
  refine q_call (dst := some 5) rfl (.func _) (.cons (.tmp rfl) Evs.nil) (HInv.static slices_Values_string_string.at_ slices_Values_string_string.body (slices_Values_string_string.snd  hp2)) ?_
  rintro _ _ ⟨rfl, rfl⟩
  refine qS 2 rfl (ok_assign · (.tmp rfl)) ?_
  refine hr_region_end ?_
  try dsimp only [w0, w1, w2, w3]
  cases h
  exact q_ret rfl at_.at_ rfl (res1 rfl rfl) ⟨rfl, rfl⟩
end
end set_Set_string_All
namespace pair_Rel_int_string_Of
theorem at_ : FnAt Try.prog 32 Try.f32 := ⟨Try.func32, by kernel_rfl⟩
noncomputable def d0 := (Try.f32.body).getD .skip
noncomputable def r1 := kR (kA d0)
noncomputable def r4 := kR (kA (kA (kB d0)))
noncomputable def r7 := kR (kA (kA (kB (kA (kB d0)))))
noncomputable def r11 := kR (kA (kB (kB d0)))
noncomputable def c0 : Code := .seq (.region 0 r1 false) (.seq (.seq (.region 1 r4 false) (.cond (.tmp 6) (.seq (.region 2 r7 false) .ret) .skip)) (.seq (.region 3 r11 false) .ret))
theorem body : Try.f32.body = some c0 := by kernel_rfl
section
variable {base : Nat} {W0 : World} {β0 : Bt}
def f (x0 : (Option HA)) (x1 : Int) (S : HS) : Option ((HV) × HS) :=
  (if (Option.isNone x0) = true then
  some ((HV.fn (.func 48) [] []), S) else
  (Option.bind (x0) fun p2 =>
  (Option.bind (HS.ldM S (HA.fld p2 2)) fun p3 =>
  (Option.bind (HS.look S p3 (.int .i64 x1)) fun p4 =>
  (Option.bind (dP (Option.getD p4 (.ptr none))) fun p5 =>
  (Option.bind (set_Set_string_All.f p5 S) fun p6 =>
  some (p6.1, p6.2)))))))
theorem snd {x0 : (Option HA)} {x1 : Int} {S : HS}  {p : (HV) × HS} (h : f x0 x1 S = some p) : HCall Try.prog base W0 β0 32 [(.ptr x0), (.int .i64 x1)] S (fun v S1 => v = p.1 ∧ S1 = p.2) := by
  unfold f at h
  refine HCall.of_run at_.at_ body ?_
  show HRun Try.prog base W0 β0 32 none [.code c0] ⟨[(.ptr x0), (.int .i64 x1), τ, τ, τ, τ, τ, τ, τ, τ, τ, τ, τ, τ], []⟩ S _
  refine q_seq rfl ?_
  refine q_region rfl rfl ?_
  refine qS 4 rfl (ok_assign · (.const fun _ => .nilFn)) ?_
  refine hr_region_end ?_
  try dsimp only [w0, w1, w2, w3]
  refine q_seq rfl ?_
  refine q_seq rfl ?_
  refine q_region rfl rfl ?_
  refine qS 5 rfl (ok_move · (.tmp rfl)) ?_
  refine qS 6 rfl (ok_nil_ptr · tu25 (.tmp rfl) (.inl ⟨rfl, rfl⟩)) ?_
  refine hr_region_end ?_
  try dsimp only [w0, w1, w2, w3]
  rcases ifc h with ⟨hc1, h⟩ | ⟨hc1, h⟩
  · refine q_cond_t rfl (.tmp rfl) hc1 ?_
    refine q_seq rfl ?_
    refine q_region rfl rfl ?_
    refine qS 4 rfl (ok_assign · (.func _)) ?_
    refine hr_region_end ?_
    try dsimp only [w0, w1, w2, w3]
    cases h
    exact q_ret rfl at_.at_ rfl (res1 rfl rfl) ⟨rfl, rfl⟩
  · refine q_cond_f rfl (.tmp rfl) (bfalse hc1) ?_
    refine q_skipc rfl ?_
    refine q_seq rfl ?_
    refine q_region rfl rfl ?_
    refine qS 7 rfl (ok_move · (.tmp rfl)) ?_
    obtain ⟨p2, hp2, h⟩ := bindo h
    refine qS 8 rfl (ok_nilCheck_p · (.tmp rfl) hp2) ?_
    refine qS 9 rfl (ok_fieldAddr_s · fi66_2 (by decide) (.tmp rfl) rfl) ?_
    obtain ⟨p3, hp3, h⟩ := bindo h
    refine qS 10 rfl (ok_load_s · sc63 (.tmp rfl) rfl (ldM_out hp3)) ?_
    try dsimp only [w0, w1, w2, w3]
    refine qS 11 rfl (ok_move · (.tmp rfl)) ?_
    obtain ⟨p4, hp4, h⟩ := bindo h
    obtain ⟨p5, hp5, h⟩ := bindo h
    refine qS 12 rfl (ok_lookup · tu63 zi75 (fun β => .ptrNil) (keyInt tu3) (.tmp rfl) (.tmp rfl) hp4 (dP_out hp5)) ?_
    obtain ⟨p6, hp6, h⟩ := bindo h
    refine q_call (dst := some 13) rfl (.func _) (.cons (.tmp rfl) Evs.nil) (HInv.static set_Set_string_All.at_ set_Set_string_All.body (set_Set_string_All.snd  hp6)) ?_
    rintro _ _ ⟨rfl, rfl⟩
    refine qS 4 rfl (ok_assign · (.tmp rfl)) ?_
    refine hr_region_end ?_
    try dsimp only [w0, w1, w2, w3]
    cases h
    exact q_ret rfl at_.at_ rfl (res1 rfl rfl) ⟨rfl, rfl⟩
end
end pair_Rel_int_string_Of
namespace rollcalllaw11_rights
theorem at_ : FnAt Try.prog 14 Try.f14 := ⟨Try.func14, by kernel_rfl⟩
noncomputable def d0 := (Try.f14.body).getD .skip
noncomputable def r1 := kR (kA d0)
noncomputable def r3 := kR (kA (kB d0))
noncomputable def r5 := kR (kA (kB (kB d0)))
noncomputable def d6 := kB (kB (kB d0))
noncomputable def r8 := kR (kA (kA d6))
noncomputable def r11 := kR (kA (kA (kB (kA d6))))
noncomputable def r16 := kR (kA (kA (kB d6)))
noncomputable def d17 := kB (kA (kB d6))
noncomputable def r19 := kR (kA (kA d17))
noncomputable def r23 := kR (kA (kA (kA (kB (kA d17)))))
noncomputable def r26 := kR (kA (kA (kB (kA (kA (kB (kA d17)))))))
noncomputable def r29 := kR (kB (kA (kB (kA d17))))
noncomputable def r31 := kR (kA (kB (kB d6)))
noncomputable def c20 : Code := .block 1 (.seq (.seq (.region 7 r23 false) (.cond (.tmp 21) (.seq (.region 8 r26 false) .ret) .skip)) (.region 9 r29 false))
noncomputable def c19 : Code := .region 6 r19 false
noncomputable def c0 : Code := .seq (.region 0 r1 false) (.seq (.region 1 r3 false) (.seq (.region 2 r5 false) (.seq (.seq (.region 3 r8 false) (.cond (.tmp 15) (.seq (.region 4 r11 false) .ret) .skip)) (.seq (.seq (.region 5 r16 false) (.block 0 (.rangeFunc (.tmp 16) #[17] c19 c20))) (.seq (.region 10 r31 false) .ret)))))
theorem body : Try.f14.body = some c0 := by kernel_rfl
section
variable {base : Nat} {W0 : World} {β0 : Bt}
def J0 (D : Dp) (H : Hd) (l : Nat) (y5 : (Option HA)) (y6 : (Option HA)) (y7 : (Option HA)) (y8 : (Option HA)) (y17 : (List UInt8)) (S : HS) : Option (HV × HS) :=
  (Option.bind (HS.begin_ S l) fun p13 =>
  (Option.bind (y8) fun p14 =>
  (Option.bind (HS.ldSl p13 p14) fun p15 =>
  (Option.bind (y5) fun p16 =>
  (Option.bind (HS.ldI p13 .i64 p16) fun p17 =>
  (if (Sl.len p15 : Int) ≥ p17 then
  (Option.bind (y6) fun p19 =>
  (Option.bind (HS.sets p13 p19 [(Sl.hv Sl.nil)]) fun p20 =>
  (Option.bind (y7) fun p21 =>
  (Option.bind (HS.sets p20 p21 [(.bool false)]) fun p22 =>
  (HS.endr p22 l (some .ret)))))) else
  (Option.bind (y8) fun p23 =>
  (Option.bind (HS.ldSl p13 p23) fun p24 =>
  (letv (HS.lit p13 [[(.str y17)]] 1) fun p25 =>
  (Option.bind (HS.rows (p25.2) (p25.1) 1) fun p26 =>
  (Option.bind (HS.app (p25.2) p24 p26 1) fun p27 =>
  (Option.bind (y8) fun p28 =>
  (Option.bind (HS.sets (p27.2) p28 [(Sl.hv (p27.1))]) fun p29 =>
  (HS.endr p29 l none))))))))))))))
theorem J0_snd {D : Dp} {H : Hd} {l : Nat} (hD : DSound Try.prog base W0 D) (hH : HSound Try.prog base W0 β0 H)  {y5 : (Option HA)} {y6 : (Option HA)} {y7 : (Option HA)} {y8 : (Option HA)} {y17 : (List UInt8)} {S : HS} {p : HV × HS} {g0 g1 g2 g3 g4 g9 g10 g11 g12 g13 g14 g15 g16 g18 g19 g20 g21 g22 g23 g24 g25 g26 : HV} (h : J0 D H l y5 y6 y7 y8 y17 S = some p) : HRun Try.prog base W0 β0 14 (some l) [.code c19, .beginRound, .code c20] ⟨[g0, g1, g2, g3, g4, (.ptr y5), (.ptr y6), (.ptr y7), (.ptr y8), g9, g10, g11, g12, g13, g14, g15, g16, (.str y17), g18, g19, g20, g21, g22, g23, g24, g25, g26], []⟩ S (fun v S1 => v = p.1 ∧ S1 = p.2) := by
  unfold J0 at h
  refine q_region rfl rfl ?_
  refine qS 10 rfl (ok_assign · (.tmp rfl)) ?_
  refine hr_region_end ?_
  try dsimp only [w0, w1, w2, w3]
  obtain ⟨p13, hp13, h⟩ := bindo h
  refine q_begin hp13 ?_
  refine q_block rfl ?_
  refine q_seq rfl ?_
  refine q_seq rfl ?_
  refine q_region rfl rfl ?_
  obtain ⟨p14, hp14, h⟩ := bindo h
  obtain ⟨p15, hp15, h⟩ := bindo h
  refine qS 18 rfl (ok_load_s · sc40 (.tmp rfl) hp14 (ldSl_out hp15)) ?_
  refine qS 19 rfl (ok_len_sl (q := Sl.a p15) (n := Sl.len p15) (z := Sl.cap p15) · rfl tu40 (.tmp rfl)) ?_
  obtain ⟨p16, hp16, h⟩ := bindo h
  obtain ⟨p17, hp17, h⟩ := bindo h
  refine qS 20 rfl (ok_load_s · sc3 (.tmp rfl) hp16 (ldI_out hp17)) ?_
  refine qS 21 rfl (ok_ibin · (.tmp rfl) (.tmp rfl) rfl) ?_
  refine hr_region_end ?_
  try dsimp only [w0, w1, w2, w3]
  rcases ifc h with ⟨hc18, h⟩ | ⟨hc18, h⟩
  · refine q_cond_t rfl (.tmp rfl) (decide_eq_true hc18) ?_
    refine q_seq rfl ?_
    refine q_region rfl rfl ?_
    obtain ⟨p19, hp19, h⟩ := bindo h
    obtain ⟨p20, hp20, h⟩ := bindo h
    refine qN rfl (ok_store_s (v := (Sl.hv Sl.nil)) · sz40 (.tmp rfl) hp19 (.const fun _ => .slNil none) rfl hp20) ?_
    obtain ⟨p21, hp21, h⟩ := bindo h
    obtain ⟨p22, hp22, h⟩ := bindo h
    refine qN rfl (ok_store_s (v := (.bool false)) · sz4 (.tmp rfl) hp21 (.bool _) rfl hp22) ?_
    refine hr_region_end ?_
    try dsimp only [w0, w1, w2, w3]
    exact q_round_ret rfl h ⟨rfl, rfl⟩
  · refine q_cond_f rfl (.tmp rfl) (decide_eq_false hc18) ?_
    refine q_skipc rfl ?_
    refine q_region rfl rfl ?_
    obtain ⟨p23, hp23, h⟩ := bindo h
    obtain ⟨p24, hp24, h⟩ := bindo h
    refine qS 22 rfl (ok_load_s · sc40 (.tmp rfl) hp23 (ldSl_out hp24)) ?_
    refine qS 23 rfl (ok_move · (.tmp rfl)) ?_
    obtain ⟨p25, hp25, h⟩ := leto h
    refine qS 24 rfl (ok_buildSlice_s (xs := [(.tmp 23)]) el40 · rfl rfl (by decide) (.cons (.tmp rfl) Evs.nil) rfl rfl hp25) ?_
    obtain ⟨p26, hp26, h⟩ := bindo h
    obtain ⟨p27, hp27, h⟩ := bindo h
    refine qS 25 rfl (ok_append (s := p24) (s1 := (p25.1)) el40 · rfl rfl ⟨_, tu40⟩ (.tmp rfl) (.tmp rfl) hp26 hp27) ?_
    try dsimp only [w0, w1, w2, w3]
    obtain ⟨p28, hp28, h⟩ := bindo h
    obtain ⟨p29, hp29, h⟩ := bindo h
    refine qN rfl (ok_store_s (v := (Sl.hv (p27.1))) · sz40 (.tmp rfl) hp28 (.tmp rfl) rfl hp29) ?_
    refine hr_region_end ?_
    try dsimp only [w0, w1, w2, w3]
    refine hr_inBlock ?_
    exact q_round_end h ⟨rfl, rfl⟩
def f (D : Dp) (H : Hd) (x0 : (Option HA)) (x1 : Int) (x2 : Int) (S : HS) : Option ((Sl × Bool) × HS) :=
  (letv (HS.new S (.cells 1 [[(.int .i64 x2)]] true)) fun p1 =>
  (letv (HS.new p1 (.cells 1 [[(Sl.hv Sl.nil)]] true)) fun p2 =>
  (letv (HS.new p2 (.cells 1 [[(.bool false)]] true)) fun p3 =>
  (letv (HS.new p3 (.cells 1 [[(Sl.hv Sl.nil)]] true)) fun p4 =>
  (Option.bind (pair_Rel_int_string_Of.f x0 x1 p4) fun p5 =>
  (Option.bind (HV.isNilFn p5.1) fun p6 =>
  (if (p6) = true then
  (Option.bind (HS.sets p5.2 (HA.cell0 p1.next) [(Sl.hv Sl.nil)]) fun p8 =>
  (Option.bind (HS.sets p8 (HA.cell0 p2.next) [(.bool false)]) fun p9 =>
  (Option.bind (HS.leave p9 []) fun p10 =>
  (Option.bind (HS.ldSl p10 (HA.cell0 p1.next)) fun p11 =>
  (Option.bind (HS.ldB p10 (HA.cell0 p2.next)) fun p12 =>
  some ((p11, p12), p10)))))) else
  (Option.bind (D (Hd.set H (HS.next p5.2 + 1) fun vs T =>
  (Option.bind (HS.lp T (HS.next p5.2 + 1)) fun u32 =>
  (Option.bind (args1 vs) fun ar30 =>
  (Option.bind (dS ar30) fun p31 =>
  (J0 D H (HS.next p5.2 + 1) (some (HA.cell0 S.next)) (some (HA.cell0 p1.next)) (some (HA.cell0 p2.next)) (some (HA.cell0 p3.next)) p31 T))))) p5.1 [.fn (.yield (HS.next p5.2 + 1)) [] []] (HS.new (HS.new p5.2 .defer) (.loop .ready none))) fun p33 =>
  (Option.bind (HS.finish p33.2 (HS.next p5.2 + 1)) fun p34 =>
  (Option.bind (pcode p34.1) fun n35 =>
  (if n35 = 0 then
  (Option.bind (HS.ldSl p34.2 (HA.cell0 p3.next)) fun p37 =>
  (Option.bind (HS.sets p34.2 (HA.cell0 p1.next) [(Sl.hv p37)]) fun p38 =>
  (Option.bind (HS.sets p38 (HA.cell0 p2.next) [(.bool true)]) fun p39 =>
  (Option.bind (HS.leave p39 (HS.next p5.2 :: [])) fun p40 =>
  (Option.bind (HS.ldSl p40 (HA.cell0 p1.next)) fun p41 =>
  (Option.bind (HS.ldB p40 (HA.cell0 p2.next)) fun p42 =>
  some ((p41, p42), p40))))))) else
  (if n35 = 1 then
  (Option.bind (HS.leave p34.2 (HS.next p5.2 :: [])) fun p44 =>
  (Option.bind (HS.ldSl p44 (HA.cell0 p1.next)) fun p45 =>
  (Option.bind (HS.ldB p44 (HA.cell0 p2.next)) fun p46 =>
  some ((p45, p46), p44)))) else
  none))))))))))))
theorem snd {D : Dp} {H : Hd} {x0 : (Option HA)} {x1 : Int} {x2 : Int} {S : HS} (hD : DSound Try.prog base W0 D) (hH : HSound Try.prog base W0 β0 H)  {p : (Sl × Bool) × HS} (h : f D H x0 x1 x2 S = some p) : HCall Try.prog base W0 β0 14 [(.ptr x0), (.int .i64 x1), (.int .i64 x2)] S (fun v S1 => v = (.tup [(Sl.hv p.1.1), (.bool p.1.2)]) ∧ S1 = p.2) := by
  unfold f at h
  refine HCall.of_run at_.at_ body ?_
  show HRun Try.prog base W0 β0 14 none [.code c0] ⟨[(.ptr x0), (.int .i64 x1), (.int .i64 x2), τ, τ, τ, τ, τ, τ, τ, τ, τ, τ, τ, τ, τ, τ, τ, τ, τ, τ, τ, τ, τ, τ, τ, τ], []⟩ S _
  refine q_seq rfl ?_
  refine q_region rfl rfl ?_
  obtain ⟨p1, hp1, h⟩ := leto h
  refine qS 5 rfl (ok_box_e · (.tmp rfl) (Nat.zero_lt_succ _) rfl hp1) ?_
  obtain ⟨p2, hp2, h⟩ := leto h
  refine qS 6 rfl (ok_alloc_e · zi40 zr40 (by decide) rfl hp2) ?_
  obtain ⟨p3, hp3, h⟩ := leto h
  refine qS 7 rfl (ok_alloc_e · zi4 zr4 (by decide) rfl hp3) ?_
  refine hr_region_end ?_
  try dsimp only [w0, w1, w2, w3]
  refine q_seq rfl ?_
  refine q_region rfl rfl ?_
  obtain ⟨p4, hp4, h⟩ := leto h
  refine qS 8 rfl (ok_alloc_e · zi40 zr40 (by decide) rfl hp4) ?_
  refine hr_region_end ?_
  try dsimp only [w0, w1, w2, w3]
  refine q_seq rfl ?_
  refine q_region rfl rfl ?_
  refine qS 11 rfl (ok_move · (.tmp rfl)) ?_
  refine qS 12 rfl (ok_move · (.tmp rfl)) ?_
  obtain ⟨p5, hp5, h⟩ := bindo h
  refine q_call (dst := some 13) rfl (.func _) (.cons (.tmp rfl) (.cons (.tmp rfl) Evs.nil)) (HInv.static pair_Rel_int_string_Of.at_ pair_Rel_int_string_Of.body (pair_Rel_int_string_Of.snd  hp5)) ?_
  rintro _ _ ⟨rfl, rfl⟩
  refine qS 9 rfl (ok_assign · (.tmp rfl)) ?_
  refine hr_region_end ?_
  try dsimp only [w0, w1, w2, w3]
  refine q_seq rfl ?_
  refine q_seq rfl ?_
  refine q_region rfl rfl ?_
  refine qS 14 rfl (ok_move · (.tmp rfl)) ?_
  obtain ⟨p6, hp6, h⟩ := bindo h
  refine qS 15 rfl (ok_nil_fn · tu72 (.tmp rfl) hp6 (.inl ⟨rfl, rfl⟩)) ?_
  refine hr_region_end ?_
  try dsimp only [w0, w1, w2, w3]
  rcases ifc h with ⟨hc7, h⟩ | ⟨hc7, h⟩
  · refine q_cond_t rfl (.tmp rfl) hc7 ?_
    refine q_seq rfl ?_
    refine q_region rfl rfl ?_
    obtain ⟨p8, hp8, h⟩ := bindo h
    refine qN rfl (ok_store_s (v := (Sl.hv Sl.nil)) · sz40 (.tmp rfl) rfl (.const fun _ => .slNil none) rfl hp8) ?_
    obtain ⟨p9, hp9, h⟩ := bindo h
    refine qN rfl (ok_store_s (v := (.bool false)) · sz4 (.tmp rfl) rfl (.bool _) rfl hp9) ?_
    refine hr_region_end ?_
    try dsimp only [w0, w1, w2, w3]
    obtain ⟨p10, hp10, h⟩ := bindo h
    obtain ⟨p11, hp11, h⟩ := bindo h
    obtain ⟨p12, hp12, h⟩ := bindo h
    cases h
    exact q_ret rfl at_.at_ hp10 (resL (rs := [.cell 6 40, .cell 7 4]) rfl (.cons (.cell rfl rfl sc40 (ldSl_out hp11)) (.cons (.cell rfl rfl sc4 (ldB_out hp12)) .nil)) (by simp)) ⟨rfl, rfl⟩
  · refine q_cond_f rfl (.tmp rfl) (bfalse hc7) ?_
    refine q_skipc rfl ?_
    refine q_seq rfl ?_
    refine q_seq rfl ?_
    refine q_region rfl rfl ?_
    refine qS 16 rfl (ok_move · (.tmp rfl)) ?_
    refine hr_region_end ?_
    try dsimp only [w0, w1, w2, w3]
    refine q_block rfl ?_
    obtain ⟨p33, hp33, h⟩ := bindo h
    obtain ⟨p34, hp34, h⟩ := bindo h
    obtain ⟨n35, hn35, h⟩ := bindo h
    refine q_range (D := D) (H := H) rfl (.tmp rfl) hD hH hp33 hp34 ?_ ?_
    · intro β1 hle hLA vs T u T' hr
      obtain ⟨u32, hu32, hr⟩ := bindo hr
      obtain ⟨ar30, har30, hr⟩ := bindo hr
      obtain ⟨p31, hp31, hr⟩ := bindo hr
      rw [args1_out har30]
      refine q_yield2 hLA hu32 rfl rfl ?_
      rw [dS_out hp31]
      simp only [HAct.params, List.set_cons_zero, List.set_cons_succ]
      exact J0_snd hD (hH.up hle) hr
    · rcases ifc h with ⟨hc36, h⟩ | ⟨hc36, h⟩
      · rw [pcode0 hn35 hc36]
        simp only [jumped_none, jumped_some]
        refine hr_inBlock ?_
        refine q_seq rfl ?_
        refine q_region rfl rfl ?_
        obtain ⟨p37, hp37, h⟩ := bindo h
        refine qS 26 rfl (ok_load_s · sc40 (.tmp rfl) rfl (ldSl_out hp37)) ?_
        obtain ⟨p38, hp38, h⟩ := bindo h
        refine qN rfl (ok_store_s (v := (Sl.hv p37)) · sz40 (.tmp rfl) rfl (.tmp rfl) rfl hp38) ?_
        obtain ⟨p39, hp39, h⟩ := bindo h
        refine qN rfl (ok_store_s (v := (.bool true)) · sz4 (.tmp rfl) rfl (.bool _) rfl hp39) ?_
        refine hr_region_end ?_
        try dsimp only [w0, w1, w2, w3]
        obtain ⟨p40, hp40, h⟩ := bindo h
        obtain ⟨p41, hp41, h⟩ := bindo h
        obtain ⟨p42, hp42, h⟩ := bindo h
        cases h
        exact q_ret rfl at_.at_ hp40 (resL (rs := [.cell 6 40, .cell 7 4]) rfl (.cons (.cell rfl rfl sc40 (ldSl_out hp41)) (.cons (.cell rfl rfl sc4 (ldB_out hp42)) .nil)) (by simp)) ⟨rfl, rfl⟩
      · rcases ifc h with ⟨hc43, h⟩ | ⟨hc43, h⟩
        · rw [pcode1 hn35 hc43]
          simp only [jumped_none, jumped_some]
          obtain ⟨p44, hp44, h⟩ := bindo h
          obtain ⟨p45, hp45, h⟩ := bindo h
          obtain ⟨p46, hp46, h⟩ := bindo h
          cases h
          exact q_ret rfl at_.at_ hp44 (resL (rs := [.cell 6 40, .cell 7 4]) rfl (.cons (.cell rfl rfl sc40 (ldSl_out hp45)) (.cons (.cell rfl rfl sc4 (ldB_out hp46)) .nil)) (by simp)) ⟨rfl, rfl⟩
        · cases h
end
end rollcalllaw11_rights
namespace slices_Delete_string_string
theorem at_ : FnAt Try.prog 59 Try.f59 := ⟨Try.func59, by kernel_rfl⟩
noncomputable def d0 := (Try.f59.body).getD .skip
noncomputable def r1 := kR (kA d0)
noncomputable def r3 := kR (kA (kB d0))
noncomputable def r6 := kR (kA (kA (kB (kB d0))))
noncomputable def r9 := kR (kA (kA (kB (kA (kB (kB d0))))))
noncomputable def d12 := kB (kB (kB d0))
noncomputable def r13 := kR (kA d12)
noncomputable def r15 := kR (kA (kB d12))
noncomputable def r17 := kR (kA (kB (kB d12)))
noncomputable def r19 := kR (kA (kB (kB (kB d12))))
noncomputable def c0 : Code := .seq (.region 0 r1 false) (.seq (.region 1 r3 false) (.seq (.seq (.region 2 r6 false) (.cond (.tmp 16) (.seq (.region 3 r9 false) .ret) .skip)) (.seq (.region 4 r13 false) (.seq (.region 5 r15 true) (.seq (.region 6 r17 false) (.seq (.region 7 r19 false) .ret))))))
theorem body : Try.f59.body = some c0 := by kernel_rfl
section
variable {base : Nat} {W0 : World} {β0 : Bt}
def f (x0 : Sl) (x1 : Int) (x2 : Int) (S : HS) : Option ((Sl) × HS) :=
  (Option.bind (HS.cut3 S x0 x1 x2 (Sl.len x0 : Int) 1) fun p1 =>
  (if x1 = x2 then
  some (x0, S) else
  (Option.bind (HS.cut S x0 0 x1 1) fun p3 =>
  (Option.bind (HS.cut S x0 x2 (Sl.len x0 : Int) 1) fun p4 =>
  (Option.bind (HS.rows S p4 1) fun p5 =>
  (Option.bind (HS.app S p3 p5 1) fun p6 =>
  (Option.bind (HS.cut (p6.2) (p6.1) (Sl.len (p6.1) : Int) (Sl.len x0 : Int) 1) fun p7 =>
  (Option.bind (HS.over (p6.2) p7 (List.replicate (Sl.len p7) [(.str [])]) 1) fun p8 =>
  some ((p6.1), p8)))))))))
theorem snd {x0 : Sl} {x1 : Int} {x2 : Int} {S : HS}  {p : (Sl) × HS} (h : f x0 x1 x2 S = some p) : HCall Try.prog base W0 β0 59 [(Sl.hv x0), (.int .i64 x1), (.int .i64 x2)] S (fun v S1 => v = (Sl.hv p.1) ∧ S1 = p.2) := by
  unfold f at h
  refine HCall.of_run at_.at_ body ?_
  show HRun Try.prog base W0 β0 59 none [.code c0] ⟨[(Sl.hv x0), (.int .i64 x1), (.int .i64 x2), τ, τ, τ, τ, τ, τ, τ, τ, τ, τ, τ, τ, τ, τ, τ, τ, τ, τ, τ, τ, τ, τ, τ, τ, τ, τ, τ, τ, τ, τ], []⟩ S _
  refine q_seq rfl ?_
  refine q_region rfl rfl ?_
  refine qS 6 rfl (ok_assign · (.const fun _ => .slNil none)) ?_
  refine hr_region_end ?_
  try dsimp only [w0, w1, w2, w3]
  refine q_seq rfl ?_
  refine q_region rfl rfl ?_
  refine qS 8 rfl (ok_move · (.tmp rfl)) ?_
  refine qS 9 rfl (ok_move · (.tmp rfl)) ?_
  refine qS 10 rfl (ok_move · (.tmp rfl)) ?_
  refine qS 11 rfl (ok_move · (.tmp rfl)) ?_
  try dsimp only [w0, w1, w2, w3]
  refine qS 12 rfl (ok_len_sl (q := Sl.a x0) (n := Sl.len x0) (z := Sl.cap x0) · rfl tu40 (.tmp rfl)) ?_
  obtain ⟨p1, hp1, h⟩ := bindo h
  refine qS 13 rfl (ok_slice3 (kl := .i64) (kh := .i64) (s := x0) (l := x1) (h := x2) · tu40 si9 (.tmp rfl) (.inr ⟨_, rfl, (.tmp rfl)⟩) (.inr ⟨_, rfl, (.tmp rfl)⟩) (.tmp rfl) hp1) ?_
  refine hr_region_end ?_
  try dsimp only [w0, w1, w2, w3]
  refine q_seq rfl ?_
  refine q_seq rfl ?_
  refine q_region rfl rfl ?_
  refine qS 14 rfl (ok_move · (.tmp rfl)) ?_
  refine qS 15 rfl (ok_move · (.tmp rfl)) ?_
  refine qS 16 rfl (ok_ibin · (.tmp rfl) (.tmp rfl) rfl) ?_
  refine hr_region_end ?_
  try dsimp only [w0, w1, w2, w3]
  rcases ifc h with ⟨hc2, h⟩ | ⟨hc2, h⟩
  · refine q_cond_t rfl (.tmp rfl) (decide_eq_true hc2) ?_
    refine q_seq rfl ?_
    refine q_region rfl rfl ?_
    refine qS 17 rfl (ok_move · (.tmp rfl)) ?_
    refine qS 6 rfl (ok_assign · (.tmp rfl)) ?_
    refine hr_region_end ?_
    try dsimp only [w0, w1, w2, w3]
    cases h
    exact q_ret rfl at_.at_ rfl (res1 rfl rfl) ⟨rfl, rfl⟩
  · refine q_cond_f rfl (.tmp rfl) (decide_eq_false hc2) ?_
    refine q_skipc rfl ?_
    refine q_seq rfl ?_
    refine q_region rfl rfl ?_
    refine qS 18 rfl (ok_move · (.tmp rfl)) ?_
    refine qS 19 rfl (ok_len_sl (q := Sl.a x0) (n := Sl.len x0) (z := Sl.cap x0) · rfl tu40 (.tmp rfl)) ?_
    refine qS 7 rfl (ok_assign · (.tmp rfl)) ?_
    refine hr_region_end ?_
    try dsimp only [w0, w1, w2, w3]
    refine q_seq rfl ?_
    refine x_start (cls := [0, 0, 1, 0, 0, 1, 2, 0]) (rk := [0, 1, 2, 3, 4, 5, 6, 7]) rfl (by kernel_rfl) ?_
    refine yf 20 [0] rfl (ok_move · (.tmp rfl)) ?_
    refine yf 21 [1] rfl (ok_move · (.tmp rfl)) ?_
    obtain ⟨p3, hp3, h⟩ := bindo h
    refine yr 22 [20, 21] rfl (ok_slice (kl := .i64) (kh := .i64) (s := x0) (l := 0) (h := x1) · tu40 si9 (.tmp rfl) (.inl ⟨rfl, rfl⟩) (.inr ⟨_, rfl, (.tmp rfl)⟩) hp3) ?_
    refine yf 23 [0] rfl (ok_move · (.tmp rfl)) ?_
    try dsimp only [w0, w1, w2, w3]
    refine yf 24 [2] rfl (ok_move · (.tmp rfl)) ?_
    obtain ⟨p4, hp4, h⟩ := bindo h
    refine yr 25 [23, 24] rfl (ok_slice (kl := .i64) (kh := .i64) (s := x0) (l := x2) (h := (Sl.len x0 : Int)) · tu40 si9 (.tmp rfl) (.inr ⟨_, rfl, (.tmp rfl)⟩) (.inl ⟨rfl, rfl⟩) hp4) ?_
    obtain ⟨p5, hp5, h⟩ := bindo h
    obtain ⟨p6, hp6, h⟩ := bindo h
    refine ye 26 [22, 25] rfl (ok_append (s := p3) (s1 := p4) el40 · rfl rfl ⟨_, tu40⟩ (.tmp rfl) (.tmp rfl) hp5 hp6) ?_
    refine yf 0 [26] rfl (ok_assign · (.tmp rfl)) ?_
    refine x_rest rfl ?_
    refine hr_region_end ?_
    try dsimp only [w0, w1, w2, w3]
    refine q_seq rfl ?_
    refine q_region rfl rfl ?_
    refine qS 27 rfl (ok_move · (.tmp rfl)) ?_
    refine qS 28 rfl (ok_move · (.tmp rfl)) ?_
    refine qS 29 rfl (ok_len_sl (q := Sl.a (p6.1)) (n := Sl.len (p6.1)) (z := Sl.cap (p6.1)) · rfl tu40 (.tmp rfl)) ?_
    refine qS 30 rfl (ok_move · (.tmp rfl)) ?_
    try dsimp only [w0, w1, w2, w3]
    obtain ⟨p7, hp7, h⟩ := bindo h
    refine qS 31 rfl (ok_slice (kl := .i64) (kh := .i64) (s := (p6.1)) (l := (Sl.len (p6.1) : Int)) (h := (Sl.len x0 : Int)) · tu40 si9 (.tmp rfl) (.inr ⟨_, rfl, (.tmp rfl)⟩) (.inr ⟨_, rfl, (.tmp rfl)⟩) hp7) ?_
    obtain ⟨p8, hp8, h⟩ := bindo h
    refine qN rfl (ok_clear (s := p7) el40 · rfl (.tmp rfl) hp8) ?_
    refine hr_region_end ?_
    try dsimp only [w0, w1, w2, w3]
    refine q_seq rfl ?_
    refine q_region rfl rfl ?_
    refine qS 32 rfl (ok_move · (.tmp rfl)) ?_
    refine qS 6 rfl (ok_assign · (.tmp rfl)) ?_
    refine hr_region_end ?_
    try dsimp only [w0, w1, w2, w3]
    cases h
    exact q_ret rfl at_.at_ rfl (res1 rfl rfl) ⟨rfl, rfl⟩
end
end slices_Delete_string_string
namespace slices_Delete_string_string_w
theorem at_ : FnAt Try.prog 59 Try.f59 := slices_Delete_string_string.at_
theorem body : Try.f59.body = some slices_Delete_string_string.c0 := slices_Delete_string_string.body
def f (x0 : Sl) (x1 : Int) (x2 : Int) (S : HS) : Option ((Sl) × HS) := HS.del S x0 x1 x2 1
theorem snd {base : Nat} {W0 : World} {β0 : Bt} {x0 : Sl} {x1 x2 : Int} {S : HS} {p : (Sl) × HS} (h : f x0 x1 x2 S = some p) : HCall Try.prog base W0 β0 59 [(Sl.hv x0), (.int .i64 x1), (.int .i64 x2)] S (fun v S1 => v = (Sl.hv p.1) ∧ S1 = p.2) :=
  del_snd (zr := [(.str [])]) (fun _ _ _ h => slices_Delete_string_string.snd h) h
end slices_Delete_string_string_w
namespace set_Set_string_Remove
theorem at_ : FnAt Try.prog 45 Try.f45 := ⟨Try.func45, by kernel_rfl⟩
noncomputable def d0 := (Try.f45.body).getD .skip
noncomputable def r1 := kR (kA d0)
noncomputable def r3 := kR (kA (kB d0))
noncomputable def r6 := kR (kA (kA (kB (kB d0))))
noncomputable def r9 := kR (kA (kA (kB (kA (kB (kB d0))))))
noncomputable def d12 := kB (kB (kB d0))
noncomputable def r14 := kR (kA (kA d12))
noncomputable def d16 := kA (kB (kA d12))
noncomputable def r18 := kR (kA (kA d16))
noncomputable def d23 := kB (kB (kA d16))
noncomputable def r26 := kR (kA (kA (kA d23)))
noncomputable def d27 := kB (kA (kA d23))
noncomputable def r28 := kR (kA d27)
noncomputable def r30 := kR (kA (kB d27))
noncomputable def r33 := kR (kA (kA (kB (kB d27))))
noncomputable def r34 := kR (kB (kA (kB (kB d27))))
noncomputable def r36 := kR (kB d23)
noncomputable def r38 := kR (kA (kB d12))
noncomputable def c37 : Code := .seq (.region 12 r38 false) .ret
noncomputable def c36 : Code := .region 11 r36 false
noncomputable def c17 : Code := .seq (.region 5 r18 false) (.seq (.cond (.tmp 15) .skip (.exit 0)) (.seq (.block 1 (.seq (.region 6 r26 false) (.seq (.region 7 r28 false) (.seq (.region 8 r30 false) (.cond (.tmp 27) (.seq (.region 9 r33 false) (.region 10 r34 false)) .skip))))) c36))
noncomputable def c0 : Code := .seq (.region 0 r1 false) (.seq (.region 1 r3 false) (.seq (.seq (.region 2 r6 false) (.cond (.tmp 11) (.seq (.region 3 r9 false) .ret) .skip)) (.seq (.seq (.region 4 r14 false) (.block 0 (.loop c17))) c37)))
theorem body : Try.f45.body = some c0 := by kernel_rfl
section
variable {base : Nat} {W0 : World} {β0 : Bt}
def J1 (k : Nat) (rec0 : (Option HA) → Int → Sl → Int → Int → HS → Option ((Int) × HS)) (y0 : (Option HA)) (y5 : Int) (y12 : Sl) (y13 : Int) (y14 : Int) (S : HS) : Option ((Int) × HS) :=
  rec0 y0 y5 y12 y13 (w64 (y14 + 1)) S
theorem J1_snd {k : Nat} {rec0 : (Option HA) → Int → Sl → Int → Int → HS → Option ((Int) × HS)} (hrec0 : ∀ ⦃y0 : (Option HA)⦄ ⦃y5 : Int⦄ ⦃y12 : Sl⦄ ⦃y13 : Int⦄ ⦃y14 : Int⦄ ⦃S : HS⦄ ⦃p : (Int) × HS⦄ ⦃g1 g2 g3 g4 g6 g7 g8 g9 g10 g11 g15 g16 g17 g18 g19 g20 g21 g22 g23 g24 g25 g26 g27 g28 g29 g30 g31 g32 g33 g34 g35 g36 g37 g38 g39 g40 g41 g42 : HV⦄, rec0 y0 y5 y12 y13 y14 S = some p → HRun Try.prog base W0 β0 45 none [.inLoop c17, .inBlock 0, .code c37] ⟨[(.ptr y0), g1, g2, g3, g4, (.int .i64 y5), g6, g7, g8, g9, g10, g11, (Sl.hv y12), (.int .i64 y13), (.int .i64 y14), g15, g16, g17, g18, g19, g20, g21, g22, g23, g24, g25, g26, g27, g28, g29, g30, g31, g32, g33, g34, g35, g36, g37, g38, g39, g40, g41, g42], []⟩ S (fun v S1 => v = (.int .i64 p.1) ∧ S1 = p.2)) {y0 : (Option HA)} {y5 : Int} {y12 : Sl} {y13 : Int} {y14 : Int} {S : HS} {p : (Int) × HS} {g1 g2 g3 g4 g6 g7 g8 g9 g10 g11 g15 g16 g17 g18 g19 g20 g21 g22 g23 g24 g25 g26 g27 g28 g29 g30 g31 g32 g33 g34 g35 g36 g37 g38 g39 g40 g41 g42 : HV} (h : J1 k rec0 y0 y5 y12 y13 y14 S = some p) : HRun Try.prog base W0 β0 45 none [.code c36, .inLoop c17, .inBlock 0, .code c37] ⟨[(.ptr y0), g1, g2, g3, g4, (.int .i64 y5), g6, g7, g8, g9, g10, g11, (Sl.hv y12), (.int .i64 y13), (.int .i64 y14), g15, g16, g17, g18, g19, g20, g21, g22, g23, g24, g25, g26, g27, g28, g29, g30, g31, g32, g33, g34, g35, g36, g37, g38, g39, g40, g41, g42], []⟩ S (fun v S1 => v = (.int .i64 p.1) ∧ S1 = p.2) := by
  unfold J1 at h
  refine q_region rfl rfl ?_
  refine qS 41 rfl (ok_ibin · (.tmp rfl) (.int _ _) rfl) ?_
  refine qS 14 rfl (ok_move · (.tmp rfl)) ?_
  refine hr_region_end ?_
  try dsimp only [w0, w1, w2, w3]
  try dsimp only [w0, w1, w2, w3]
  exact hrec0 h
def L0 (k : Nat) : Nat → (Option HA) → Int → Sl → Int → Int → HS → Option ((Int) × HS)
  | 0, _, _, _, _, _, _ => none
  | n + 1, y0, y5, y12, y13, y14, S =>
    (if y14 < y13 then
    (Option.bind (HS.idx S y12 y14 1) fun p3 =>
    (Option.bind (HS.ldS S p3) fun p4 =>
    (Option.bind (y0) fun p5 =>
    (Option.bind (HS.ldSl S (HA.fld p5 0)) fun p6 =>
    (Option.bind (slices_BinarySearch_string_string.f k p6 p4 S) fun p7 =>
    (if p7.1.2 = true then
    (Option.bind (y0) fun p9 =>
    (Option.bind (HS.ldSl p7.2 (HA.fld p9 0)) fun p10 =>
    (Option.bind (slices_Delete_string_string_w.f p10 p7.1.1 (w64 (p7.1.1 + 1)) p7.2) fun p11 =>
    (Option.bind (y0) fun p12 =>
    (Option.bind (HS.sets p11.2 (HA.fld p12 0) [(Sl.hv p11.1)]) fun p13 =>
    J1 k (L0 k n) y0 (w64 (y5 + 1)) y12 y13 y14 p13))))) else
    J1 k (L0 k n) y0 y5 y12 y13 y14 p7.2)))))) else
    some (y5, S))
theorem L0_snd {k : Nat}  : ∀ {n : Nat} ⦃y0 : (Option HA)⦄ ⦃y5 : Int⦄ ⦃y12 : Sl⦄ ⦃y13 : Int⦄ ⦃y14 : Int⦄ ⦃S : HS⦄ ⦃p : (Int) × HS⦄ ⦃g1 g2 g3 g4 g6 g7 g8 g9 g10 g11 g15 g16 g17 g18 g19 g20 g21 g22 g23 g24 g25 g26 g27 g28 g29 g30 g31 g32 g33 g34 g35 g36 g37 g38 g39 g40 g41 g42 : HV⦄, L0 k n y0 y5 y12 y13 y14 S = some p → HRun Try.prog base W0 β0 45 none [.inLoop c17, .inBlock 0, .code c37] ⟨[(.ptr y0), g1, g2, g3, g4, (.int .i64 y5), g6, g7, g8, g9, g10, g11, (Sl.hv y12), (.int .i64 y13), (.int .i64 y14), g15, g16, g17, g18, g19, g20, g21, g22, g23, g24, g25, g26, g27, g28, g29, g30, g31, g32, g33, g34, g35, g36, g37, g38, g39, g40, g41, g42], []⟩ S (fun v S1 => v = (.int .i64 p.1) ∧ S1 = p.2) := by
  intro n
  induction n with
  | zero => intro _ _ _ _ _ _ _ _ _ _ _ _ _ _ _ _ _ _ _ _ _ _ _ _ _ _ _ _ _ _ _ _ _ _ _ _ _ _ _ _ _ _ _ _ _ h; cases h
  | succ n ih =>
    intro y0 y5 y12 y13 y14 S p g1 g2 g3 g4 g6 g7 g8 g9 g10 g11 g15 g16 g17 g18 g19 g20 g21 g22 g23 g24 g25 g26 g27 g28 g29 g30 g31 g32 g33 g34 g35 g36 g37 g38 g39 g40 g41 g42 h
    simp only [L0] at h
    refine hr_inLoop ?_
    refine q_seq rfl ?_
    refine q_region rfl rfl ?_
    refine qS 15 rfl (ok_ibin · (.tmp rfl) (.tmp rfl) rfl) ?_
    refine hr_region_end ?_
    try dsimp only [w0, w1, w2, w3]
    refine q_seq rfl ?_
    rcases ifc h with ⟨hc2, h⟩ | ⟨hc2, h⟩
    · refine q_cond_t rfl (.tmp rfl) (decide_eq_true hc2) ?_
      refine q_skipc rfl ?_
      refine q_seq rfl ?_
      refine q_block rfl ?_
      refine q_seq rfl ?_
      refine q_region rfl rfl ?_
      obtain ⟨p3, hp3, h⟩ := bindo h
      refine qS 16 rfl (ok_indexAddr (s := y12) · tu40 sz9 (.tmp rfl) (.tmp rfl) hp3) ?_
      obtain ⟨p4, hp4, h⟩ := bindo h
      refine qS 17 rfl (ok_load_s · sc9 (.tmp rfl) rfl (ldS_out hp4)) ?_
      refine qS 7 rfl (ok_assign · (.tmp rfl)) ?_
      refine hr_region_end ?_
      try dsimp only [w0, w1, w2, w3]
      refine q_seq rfl ?_
      refine q_region rfl rfl ?_
      refine qS 19 rfl (ok_move · (.tmp rfl)) ?_
      obtain ⟨p5, hp5, h⟩ := bindo h
      refine qS 20 rfl (ok_nilCheck_p · (.tmp rfl) hp5) ?_
      refine qS 21 rfl (ok_fieldAddr_s · fi93_0 (by decide) (.tmp rfl) rfl) ?_
      obtain ⟨p6, hp6, h⟩ := bindo h
      refine qS 22 rfl (ok_load_s · sc40 (.tmp rfl) rfl (ldSl_out hp6)) ?_
      try dsimp only [w0, w1, w2, w3]
      refine qS 23 rfl (ok_move · (.tmp rfl)) ?_
      obtain ⟨p7, hp7, h⟩ := bindo h
      refine q_call (dst := some 24) rfl (.func _) (.cons (.tmp rfl) (.cons (.tmp rfl) Evs.nil)) (HInv.static slices_BinarySearch_string_string.at_ slices_BinarySearch_string_string.body (slices_BinarySearch_string_string.snd  hp7)) ?_
      rintro _ _ ⟨rfl, rfl⟩
      refine qS 18 rfl (ok_move · (.tmp rfl)) ?_
      refine qS 25 rfl (ok_extract · (.tmp rfl) rfl) ?_
      try dsimp only [w0, w1, w2, w3]
      refine qS 26 rfl (ok_extract · (.tmp rfl) rfl) ?_
      refine qS 8 rfl (ok_assign · (.tmp rfl)) ?_
      refine qS 9 rfl (ok_assign · (.tmp rfl)) ?_
      refine hr_region_end ?_
      try dsimp only [w0, w1, w2, w3]
      refine q_seq rfl ?_
      refine q_region rfl rfl ?_
      refine qS 27 rfl (ok_move · (.tmp rfl)) ?_
      refine hr_region_end ?_
      try dsimp only [w0, w1, w2, w3]
      rcases ifc h with ⟨hc8, h⟩ | ⟨hc8, h⟩
      · refine q_cond_t rfl (.tmp rfl) hc8 ?_
        refine q_seq rfl ?_
        refine q_region rfl rfl ?_
        refine qS 28 rfl (ok_move · (.tmp rfl)) ?_
        refine qS 29 rfl (ok_move · (.tmp rfl)) ?_
        obtain ⟨p9, hp9, h⟩ := bindo h
        refine qS 30 rfl (ok_nilCheck_p · (.tmp rfl) hp9) ?_
        refine qS 31 rfl (ok_fieldAddr_s · fi93_0 (by decide) (.tmp rfl) rfl) ?_
        try dsimp only [w0, w1, w2, w3]
        obtain ⟨p10, hp10, h⟩ := bindo h
        refine qS 32 rfl (ok_load_s · sc40 (.tmp rfl) rfl (ldSl_out hp10)) ?_
        refine qS 33 rfl (ok_move · (.tmp rfl)) ?_
        refine qS 34 rfl (ok_move · (.tmp rfl)) ?_
        refine qS 35 rfl (ok_ibin · (.tmp rfl) (.int _ _) rfl) ?_
        try dsimp only [w0, w1, w2, w3]
        obtain ⟨p11, hp11, h⟩ := bindo h
        refine q_call (dst := some 36) rfl (.func _) (.cons (.tmp rfl) (.cons (.tmp rfl) (.cons (.tmp rfl) Evs.nil))) (HInv.static slices_Delete_string_string_w.at_ slices_Delete_string_string_w.body (slices_Delete_string_string_w.snd  hp11)) ?_
        rintro _ _ ⟨rfl, rfl⟩
        obtain ⟨p12, hp12, h⟩ := bindo h
        refine qS 37 rfl (ok_nilCheck_p · (.tmp rfl) hp12) ?_
        refine qS 38 rfl (ok_fieldAddr_s · fi93_0 (by decide) (.tmp rfl) rfl) ?_
        obtain ⟨p13, hp13, h⟩ := bindo h
        refine qN rfl (ok_store_s (v := (Sl.hv p11.1)) · sz40 (.tmp rfl) rfl (.tmp rfl) rfl hp13) ?_
        refine hr_region_end ?_
        try dsimp only [w0, w1, w2, w3]
        refine q_region rfl rfl ?_
        refine qS 39 rfl (ok_move · (.tmp rfl)) ?_
        refine qS 40 rfl (ok_ibin · (.tmp rfl) (.int _ _) rfl) ?_
        refine qS 5 rfl (ok_assign · (.tmp rfl)) ?_
        refine hr_region_end ?_
        try dsimp only [w0, w1, w2, w3]
        refine hr_inBlock ?_
        try dsimp only [w0, w1, w2, w3]
        exact J1_snd ih h
      · refine q_cond_f rfl (.tmp rfl) (bfalse hc8) ?_
        refine q_skipc rfl ?_
        refine hr_inBlock ?_
        try dsimp only [w0, w1, w2, w3]
        exact J1_snd ih h
    · refine q_cond_f rfl (.tmp rfl) (decide_eq_false hc2) ?_
      refine q_exit rfl rfl ?_
      refine q_seq rfl ?_
      refine q_region rfl rfl ?_
      refine qS 42 rfl (ok_move · (.tmp rfl)) ?_
      refine qS 4 rfl (ok_assign · (.tmp rfl)) ?_
      refine hr_region_end ?_
      try dsimp only [w0, w1, w2, w3]
      cases h
      exact q_ret rfl at_.at_ rfl (res1 rfl rfl) ⟨rfl, rfl⟩
def f (k : Nat) (x0 : (Option HA)) (x1 : Sl) (S : HS) : Option ((Int) × HS) :=
  (if (Option.isNone x0) = true then
  some (0, S) else
  L0 k k x0 0 x1 (Sl.len x1 : Int) 0 S)
theorem snd {k : Nat} {x0 : (Option HA)} {x1 : Sl} {S : HS}  {p : (Int) × HS} (h : f k x0 x1 S = some p) : HCall Try.prog base W0 β0 45 [(.ptr x0), (Sl.hv x1)] S (fun v S1 => v = (.int .i64 p.1) ∧ S1 = p.2) := by
  unfold f at h
  refine HCall.of_run at_.at_ body ?_
  show HRun Try.prog base W0 β0 45 none [.code c0] ⟨[(.ptr x0), (Sl.hv x1), τ, τ, τ, τ, τ, τ, τ, τ, τ, τ, τ, τ, τ, τ, τ, τ, τ, τ, τ, τ, τ, τ, τ, τ, τ, τ, τ, τ, τ, τ, τ, τ, τ, τ, τ, τ, τ, τ, τ, τ, τ], []⟩ S _
  refine q_seq rfl ?_
  refine q_region rfl rfl ?_
  refine qS 4 rfl (ok_assign · (.int _ _)) ?_
  refine hr_region_end ?_
  try dsimp only [w0, w1, w2, w3]
  refine q_seq rfl ?_
  refine q_region rfl rfl ?_
  refine qS 5 rfl (ok_assign · (.int _ _)) ?_
  refine hr_region_end ?_
  try dsimp only [w0, w1, w2, w3]
  refine q_seq rfl ?_
  refine q_seq rfl ?_
  refine q_region rfl rfl ?_
  refine qS 10 rfl (ok_move · (.tmp rfl)) ?_
  refine qS 11 rfl (ok_nil_ptr · tu75 (.tmp rfl) (.inl ⟨rfl, rfl⟩)) ?_
  refine hr_region_end ?_
  try dsimp only [w0, w1, w2, w3]
  rcases ifc h with ⟨hc1, h⟩ | ⟨hc1, h⟩
  · refine q_cond_t rfl (.tmp rfl) hc1 ?_
    refine q_seq rfl ?_
    refine q_region rfl rfl ?_
    refine qS 4 rfl (ok_assign · (.int _ _)) ?_
    refine hr_region_end ?_
    try dsimp only [w0, w1, w2, w3]
    cases h
    exact q_ret rfl at_.at_ rfl (res1 rfl rfl) ⟨rfl, rfl⟩
  · refine q_cond_f rfl (.tmp rfl) (bfalse hc1) ?_
    refine q_skipc rfl ?_
    refine q_seq rfl ?_
    refine q_seq rfl ?_
    refine q_region rfl rfl ?_
    refine qS 12 rfl (ok_move · (.tmp rfl)) ?_
    refine qS 13 rfl (ok_len_sl (q := Sl.a x1) (n := Sl.len x1) (z := Sl.cap x1) · rfl tu40 (.tmp rfl)) ?_
    refine qS 14 rfl (ok_move · (.int _ _)) ?_
    refine hr_region_end ?_
    try dsimp only [w0, w1, w2, w3]
    refine q_block rfl ?_
    refine q_loop rfl ?_
    try dsimp only [w0, w1, w2, w3]
    exact L0_snd  h
end
end set_Set_string_Remove
namespace pair_take_int_string
theorem at_ : FnAt Try.prog 30 Try.f30 := ⟨Try.func30, by kernel_rfl⟩
noncomputable def d0 := (Try.f30.body).getD .skip
noncomputable def r1 := kR (kA d0)
noncomputable def r3 := kR (kA (kB d0))
noncomputable def r5 := kR (kA (kB (kB d0)))
noncomputable def c0 : Code := .seq (.region 0 r1 false) (.seq (.region 1 r3 false) (.cond (.tmp 16) (.region 2 r5 false) .skip))
theorem body : Try.f30.body = some c0 := by kernel_rfl
section
variable {base : Nat} {W0 : World} {β0 : Bt}
def J0 (k : Nat) (S : HS) : Option ((Unit) × HS) :=
  some ((), S)
theorem J0_snd {k : Nat}  {S : HS} {p : (Unit) × HS} {g0 g1 g2 g3 g4 g5 g6 g7 g8 g9 g10 g11 g12 g13 g14 g15 g16 g17 g18 : HV} (h : J0 k S = some p) : HRun Try.prog base W0 β0 30 none [] ⟨[g0, g1, g2, g3, g4, g5, g6, g7, g8, g9, g10, g11, g12, g13, g14, g15, g16, g17, g18], []⟩ S (fun v S1 => v = (.tup []) ∧ S1 = p.2) := by
  unfold J0 at h
  cases h
  exact q_end at_.at_ rfl (res0 rfl) ⟨rfl, rfl⟩
def f (k : Nat) (x0 : (Option Nat)) (x1 : Int) (x2 : (List UInt8)) (S : HS) : Option ((Unit) × HS) :=
  (Option.bind (HS.look S x0 (.int .i64 x1)) fun p1 =>
  (Option.bind (dP (Option.getD p1 (.ptr none))) fun p2 =>
  (letv (HS.lit S [[(.str x2)]] 1) fun p3 =>
  (Option.bind (set_Set_string_Remove.f k p2 (p3.1) (p3.2)) fun p4 =>
  (Option.bind (HS.look p4.2 x0 (.int .i64 x1)) fun p5 =>
  (Option.bind (dP (Option.getD p5 (.ptr none))) fun p6 =>
  (Option.bind (set_Set_string_Len.f p6 p4.2) fun p7 =>
  (if p7.1 = 0 then
  (Option.bind (HS.mdel p7.2 x0 (.int .i64 x1)) fun p9 =>
  J0 k p9) else
  J0 k p7.2))))))))
theorem snd {k : Nat} {x0 : (Option Nat)} {x1 : Int} {x2 : (List UInt8)} {S : HS}  {p : (Unit) × HS} (h : f k x0 x1 x2 S = some p) : HCall Try.prog base W0 β0 30 [(.map x0), (.int .i64 x1), (.str x2)] S (fun v S1 => v = (.tup []) ∧ S1 = p.2) := by
  unfold f at h
  refine HCall.of_run at_.at_ body ?_
  show HRun Try.prog base W0 β0 30 none [.code c0] ⟨[(.map x0), (.int .i64 x1), (.str x2), τ, τ, τ, τ, τ, τ, τ, τ, τ, τ, τ, τ, τ, τ, τ, τ], []⟩ S _
  refine q_seq rfl ?_
  refine q_region rfl rfl ?_
  refine qS 6 rfl (ok_move · (.tmp rfl)) ?_
  refine qS 7 rfl (ok_move · (.tmp rfl)) ?_
  obtain ⟨p1, hp1, h⟩ := bindo h
  obtain ⟨p2, hp2, h⟩ := bindo h
  refine qS 8 rfl (ok_lookup · tu63 zi75 (fun β => .ptrNil) (keyInt tu3) (.tmp rfl) (.tmp rfl) hp1 (dP_out hp2)) ?_
  refine qS 9 rfl (ok_move · (.tmp rfl)) ?_
  try dsimp only [w0, w1, w2, w3]
  obtain ⟨p3, hp3, h⟩ := leto h
  refine qS 10 rfl (ok_buildSlice_s (xs := [(.tmp 9)]) el40 · rfl rfl (by decide) (.cons (.tmp rfl) Evs.nil) rfl rfl hp3) ?_
  obtain ⟨p4, hp4, h⟩ := bindo h
  refine q_call (dst := some 11) rfl (.func _) (.cons (.tmp rfl) (.cons (.tmp rfl) Evs.nil)) (HInv.static set_Set_string_Remove.at_ set_Set_string_Remove.body (set_Set_string_Remove.snd  hp4)) ?_
  rintro _ _ ⟨rfl, rfl⟩
  refine hr_region_end ?_
  try dsimp only [w0, w1, w2, w3]
  refine q_seq rfl ?_
  refine q_region rfl rfl ?_
  refine qS 12 rfl (ok_move · (.tmp rfl)) ?_
  refine qS 13 rfl (ok_move · (.tmp rfl)) ?_
  obtain ⟨p5, hp5, h⟩ := bindo h
  obtain ⟨p6, hp6, h⟩ := bindo h
  refine qS 14 rfl (ok_lookup · tu63 zi75 (fun β => .ptrNil) (keyInt tu3) (.tmp rfl) (.tmp rfl) hp5 (dP_out hp6)) ?_
  obtain ⟨p7, hp7, h⟩ := bindo h
  refine q_call (dst := some 15) rfl (.func _) (.cons (.tmp rfl) Evs.nil) (HInv.static set_Set_string_Len.at_ set_Set_string_Len.body (set_Set_string_Len.snd  hp7)) ?_
  rintro _ _ ⟨rfl, rfl⟩
  try dsimp only [w0, w1, w2, w3]
  refine qS 16 rfl (ok_ibin · (.tmp rfl) (.int _ _) rfl) ?_
  refine hr_region_end ?_
  try dsimp only [w0, w1, w2, w3]
  rcases ifc h with ⟨hc8, h⟩ | ⟨hc8, h⟩
  · refine q_cond_t rfl (.tmp rfl) (decide_eq_true hc8) ?_
    refine q_region rfl rfl ?_
    refine qS 17 rfl (ok_move · (.tmp rfl)) ?_
    refine qS 18 rfl (ok_move · (.tmp rfl)) ?_
    obtain ⟨p9, hp9, h⟩ := bindo h
    refine qN rfl (ok_delete · rfl tu63 (keyInt tu3) (.tmp rfl) (.tmp rfl) hp9) ?_
    refine hr_region_end ?_
    try dsimp only [w0, w1, w2, w3]
    try dsimp only [w0, w1, w2, w3]
    exact J0_snd  h
  · refine q_cond_f rfl (.tmp rfl) (decide_eq_false hc8) ?_
    refine q_skipc rfl ?_
    try dsimp only [w0, w1, w2, w3]
    exact J0_snd  h
end
end pair_take_int_string
namespace pair_take_string_int
theorem at_ : FnAt Try.prog 31 Try.f31 := ⟨Try.func31, by kernel_rfl⟩
noncomputable def d0 := (Try.f31.body).getD .skip
noncomputable def r1 := kR (kA d0)
noncomputable def r3 := kR (kA (kB d0))
noncomputable def r5 := kR (kA (kB (kB d0)))
noncomputable def c0 : Code := .seq (.region 0 r1 false) (.seq (.region 1 r3 false) (.cond (.tmp 16) (.region 2 r5 false) .skip))
theorem body : Try.f31.body = some c0 := by kernel_rfl
section
variable {base : Nat} {W0 : World} {β0 : Bt}
def J0 (k : Nat) (S : HS) : Option ((Unit) × HS) :=
  some ((), S)
theorem J0_snd {k : Nat}  {S : HS} {p : (Unit) × HS} {g0 g1 g2 g3 g4 g5 g6 g7 g8 g9 g10 g11 g12 g13 g14 g15 g16 g17 g18 : HV} (h : J0 k S = some p) : HRun Try.prog base W0 β0 31 none [] ⟨[g0, g1, g2, g3, g4, g5, g6, g7, g8, g9, g10, g11, g12, g13, g14, g15, g16, g17, g18], []⟩ S (fun v S1 => v = (.tup []) ∧ S1 = p.2) := by
  unfold J0 at h
  cases h
  exact q_end at_.at_ rfl (res0 rfl) ⟨rfl, rfl⟩
def f (k : Nat) (x0 : (Option Nat)) (x1 : (List UInt8)) (x2 : Int) (S : HS) : Option ((Unit) × HS) :=
  (Option.bind (HS.look S x0 (.str x1)) fun p1 =>
  (Option.bind (dP (Option.getD p1 (.ptr none))) fun p2 =>
  (letv (HS.lit S [[(.int .i64 x2)]] 1) fun p3 =>
  (Option.bind (set_Set_int_Remove.f k p2 (p3.1) (p3.2)) fun p4 =>
  (Option.bind (HS.look p4.2 x0 (.str x1)) fun p5 =>
  (Option.bind (dP (Option.getD p5 (.ptr none))) fun p6 =>
  (Option.bind (set_Set_int_Len.f p6 p4.2) fun p7 =>
  (if p7.1 = 0 then
  (Option.bind (HS.mdel p7.2 x0 (.str x1)) fun p9 =>
  J0 k p9) else
  J0 k p7.2))))))))
theorem snd {k : Nat} {x0 : (Option Nat)} {x1 : (List UInt8)} {x2 : Int} {S : HS}  {p : (Unit) × HS} (h : f k x0 x1 x2 S = some p) : HCall Try.prog base W0 β0 31 [(.map x0), (.str x1), (.int .i64 x2)] S (fun v S1 => v = (.tup []) ∧ S1 = p.2) := by
  unfold f at h
  refine HCall.of_run at_.at_ body ?_
  show HRun Try.prog base W0 β0 31 none [.code c0] ⟨[(.map x0), (.str x1), (.int .i64 x2), τ, τ, τ, τ, τ, τ, τ, τ, τ, τ, τ, τ, τ, τ, τ, τ], []⟩ S _
  refine q_seq rfl ?_
  refine q_region rfl rfl ?_
  refine qS 6 rfl (ok_move · (.tmp rfl)) ?_
  refine qS 7 rfl (ok_move · (.tmp rfl)) ?_
  obtain ⟨p1, hp1, h⟩ := bindo h
  obtain ⟨p2, hp2, h⟩ := bindo h
  refine qS 8 rfl (ok_lookup · tu64 zi83 (fun β => .ptrNil) (keyStr tu9) (.tmp rfl) (.tmp rfl) hp1 (dP_out hp2)) ?_
  refine qS 9 rfl (ok_move · (.tmp rfl)) ?_
  try dsimp only [w0, w1, w2, w3]
  obtain ⟨p3, hp3, h⟩ := leto h
  refine qS 10 rfl (ok_buildSlice_s (xs := [(.tmp 9)]) el43 · rfl rfl (by decide) (.cons (.tmp rfl) Evs.nil) rfl rfl hp3) ?_
  obtain ⟨p4, hp4, h⟩ := bindo h
  refine q_call (dst := some 11) rfl (.func _) (.cons (.tmp rfl) (.cons (.tmp rfl) Evs.nil)) (HInv.static set_Set_int_Remove.at_ set_Set_int_Remove.body (set_Set_int_Remove.snd  hp4)) ?_
  rintro _ _ ⟨rfl, rfl⟩
  refine hr_region_end ?_
  try dsimp only [w0, w1, w2, w3]
  refine q_seq rfl ?_
  refine q_region rfl rfl ?_
  refine qS 12 rfl (ok_move · (.tmp rfl)) ?_
  refine qS 13 rfl (ok_move · (.tmp rfl)) ?_
  obtain ⟨p5, hp5, h⟩ := bindo h
  obtain ⟨p6, hp6, h⟩ := bindo h
  refine qS 14 rfl (ok_lookup · tu64 zi83 (fun β => .ptrNil) (keyStr tu9) (.tmp rfl) (.tmp rfl) hp5 (dP_out hp6)) ?_
  obtain ⟨p7, hp7, h⟩ := bindo h
  refine q_call (dst := some 15) rfl (.func _) (.cons (.tmp rfl) Evs.nil) (HInv.static set_Set_int_Len.at_ set_Set_int_Len.body (set_Set_int_Len.snd  hp7)) ?_
  rintro _ _ ⟨rfl, rfl⟩
  try dsimp only [w0, w1, w2, w3]
  refine qS 16 rfl (ok_ibin · (.tmp rfl) (.int _ _) rfl) ?_
  refine hr_region_end ?_
  try dsimp only [w0, w1, w2, w3]
  rcases ifc h with ⟨hc8, h⟩ | ⟨hc8, h⟩
  · refine q_cond_t rfl (.tmp rfl) (decide_eq_true hc8) ?_
    refine q_region rfl rfl ?_
    refine qS 17 rfl (ok_move · (.tmp rfl)) ?_
    refine qS 18 rfl (ok_move · (.tmp rfl)) ?_
    obtain ⟨p9, hp9, h⟩ := bindo h
    refine qN rfl (ok_delete · rfl tu64 (keyStr tu9) (.tmp rfl) (.tmp rfl) hp9) ?_
    refine hr_region_end ?_
    try dsimp only [w0, w1, w2, w3]
    try dsimp only [w0, w1, w2, w3]
    exact J0_snd  h
  · refine q_cond_f rfl (.tmp rfl) (decide_eq_false hc8) ?_
    refine q_skipc rfl ?_
    try dsimp only [w0, w1, w2, w3]
    exact J0_snd  h
end
end pair_take_string_int
namespace pair_Rel_int_string_Remove
theorem at_ : FnAt Try.prog 9 Try.f9 := ⟨Try.func9, by kernel_rfl⟩
noncomputable def d0 := (Try.f9.body).getD .skip
noncomputable def r1 := kR (kA d0)
noncomputable def r4 := kR (kA (kA (kB d0)))
noncomputable def r7 := kR (kA (kA (kB (kA (kB d0)))))
noncomputable def r11 := kR (kA (kB (kB d0)))
noncomputable def r13 := kR (kA (kB (kB (kB d0))))
noncomputable def r15 := kR (kA (kB (kB (kB (kB d0)))))
noncomputable def r17 := kR (kA (kB (kB (kB (kB (kB d0))))))
noncomputable def c0 : Code := .seq (.region 0 r1 false) (.seq (.seq (.region 1 r4 false) (.cond (.tmp 11) (.seq (.region 2 r7 false) .ret) .skip)) (.seq (.region 3 r11 false) (.seq (.region 4 r13 false) (.seq (.region 5 r15 false) (.seq (.region 6 r17 false) .ret)))))
theorem body : Try.f9.body = some c0 := by kernel_rfl
section
variable {base : Nat} {W0 : World} {β0 : Bt}
def f (k : Nat) (x0 : (Option HA)) (x1 : Int) (x2 : (List UInt8)) (S : HS) : Option ((Bool) × HS) :=
  (Option.bind (pair_Rel_int_string_Has.f k x0 x1 x2 S) fun p1 =>
  (if (!p1.1) = true then
  some (false, p1.2) else
  (Option.bind (x0) fun p3 =>
  (Option.bind (HS.ldM p1.2 (HA.fld p3 2)) fun p4 =>
  (Option.bind (pair_take_int_string.f k p4 x1 x2 p1.2) fun p5 =>
  (Option.bind (x0) fun p6 =>
  (Option.bind (HS.ldM p5.2 (HA.fld p6 3)) fun p7 =>
  (Option.bind (pair_take_string_int.f k p7 x2 x1 p5.2) fun p8 =>
  (Option.bind (x0) fun p9 =>
  (Option.bind (HS.ldI p8.2 .i64 (HA.fld p9 1)) fun p10 =>
  (Option.bind (x0) fun p11 =>
  (Option.bind (HS.sets p8.2 (HA.fld p11 1) [(.int .i64 (w64 (p10 - 1)))]) fun p12 =>
  some (true, p12)))))))))))))
theorem snd {k : Nat} {x0 : (Option HA)} {x1 : Int} {x2 : (List UInt8)} {S : HS}  {p : (Bool) × HS} (h : f k x0 x1 x2 S = some p) : HCall Try.prog base W0 β0 9 [(.ptr x0), (.int .i64 x1), (.str x2)] S (fun v S1 => v = (.bool p.1) ∧ S1 = p.2) := by
  unfold f at h
  refine HCall.of_run at_.at_ body ?_
  show HRun Try.prog base W0 β0 9 none [.code c0] ⟨[(.ptr x0), (.int .i64 x1), (.str x2), τ, τ, τ, τ, τ, τ, τ, τ, τ, τ, τ, τ, τ, τ, τ, τ, τ, τ, τ, τ, τ, τ, τ, τ, τ, τ, τ, τ, τ, τ], []⟩ S _
  refine q_seq rfl ?_
  refine q_region rfl rfl ?_
  refine qS 6 rfl (ok_assign · (.bool _)) ?_
  refine hr_region_end ?_
  try dsimp only [w0, w1, w2, w3]
  refine q_seq rfl ?_
  refine q_seq rfl ?_
  refine q_region rfl rfl ?_
  refine qS 7 rfl (ok_move · (.tmp rfl)) ?_
  refine qS 8 rfl (ok_move · (.tmp rfl)) ?_
  refine qS 9 rfl (ok_move · (.tmp rfl)) ?_
  obtain ⟨p1, hp1, h⟩ := bindo h
  refine q_call (dst := some 10) rfl (.func _) (.cons (.tmp rfl) (.cons (.tmp rfl) (.cons (.tmp rfl) Evs.nil))) (HInv.static pair_Rel_int_string_Has.at_ pair_Rel_int_string_Has.body (pair_Rel_int_string_Has.snd  hp1)) ?_
  rintro _ _ ⟨rfl, rfl⟩
  try dsimp only [w0, w1, w2, w3]
  refine qS 11 rfl (ok_not · (.tmp rfl)) ?_
  refine hr_region_end ?_
  try dsimp only [w0, w1, w2, w3]
  rcases ifc h with ⟨hc2, h⟩ | ⟨hc2, h⟩
  · refine q_cond_t rfl (.tmp rfl) hc2 ?_
    refine q_seq rfl ?_
    refine q_region rfl rfl ?_
    refine qS 6 rfl (ok_assign · (.bool _)) ?_
    refine hr_region_end ?_
    try dsimp only [w0, w1, w2, w3]
    cases h
    exact q_ret rfl at_.at_ rfl (res1 rfl rfl) ⟨rfl, rfl⟩
  · refine q_cond_f rfl (.tmp rfl) (bfalse hc2) ?_
    refine q_skipc rfl ?_
    refine q_seq rfl ?_
    refine q_region rfl rfl ?_
    refine qS 12 rfl (ok_move · (.tmp rfl)) ?_
    obtain ⟨p3, hp3, h⟩ := bindo h
    refine qS 13 rfl (ok_nilCheck_p · (.tmp rfl) hp3) ?_
    refine qS 14 rfl (ok_fieldAddr_s · fi66_2 (by decide) (.tmp rfl) rfl) ?_
    obtain ⟨p4, hp4, h⟩ := bindo h
    refine qS 15 rfl (ok_load_s · sc63 (.tmp rfl) rfl (ldM_out hp4)) ?_
    try dsimp only [w0, w1, w2, w3]
    refine qS 16 rfl (ok_move · (.tmp rfl)) ?_
    refine qS 17 rfl (ok_move · (.tmp rfl)) ?_
    obtain ⟨p5, hp5, h⟩ := bindo h
    refine q_call (dst := some 18) rfl (.func _) (.cons (.tmp rfl) (.cons (.tmp rfl) (.cons (.tmp rfl) Evs.nil))) (HInv.static pair_take_int_string.at_ pair_take_int_string.body (pair_take_int_string.snd  hp5)) ?_
    rintro _ _ ⟨rfl, rfl⟩
    refine hr_region_end ?_
    try dsimp only [w0, w1, w2, w3]
    refine q_seq rfl ?_
    refine q_region rfl rfl ?_
    refine qS 19 rfl (ok_move · (.tmp rfl)) ?_
    obtain ⟨p6, hp6, h⟩ := bindo h
    refine qS 20 rfl (ok_nilCheck_p · (.tmp rfl) hp6) ?_
    refine qS 21 rfl (ok_fieldAddr_s · fi66_3 (by decide) (.tmp rfl) rfl) ?_
    obtain ⟨p7, hp7, h⟩ := bindo h
    refine qS 22 rfl (ok_load_s · sc64 (.tmp rfl) rfl (ldM_out hp7)) ?_
    try dsimp only [w0, w1, w2, w3]
    refine qS 23 rfl (ok_move · (.tmp rfl)) ?_
    refine qS 24 rfl (ok_move · (.tmp rfl)) ?_
    obtain ⟨p8, hp8, h⟩ := bindo h
    refine q_call (dst := some 25) rfl (.func _) (.cons (.tmp rfl) (.cons (.tmp rfl) (.cons (.tmp rfl) Evs.nil))) (HInv.static pair_take_string_int.at_ pair_take_string_int.body (pair_take_string_int.snd  hp8)) ?_
    rintro _ _ ⟨rfl, rfl⟩
    refine hr_region_end ?_
    try dsimp only [w0, w1, w2, w3]
    refine q_seq rfl ?_
    refine q_region rfl rfl ?_
    refine qS 26 rfl (ok_move · (.tmp rfl)) ?_
    obtain ⟨p9, hp9, h⟩ := bindo h
    refine qS 27 rfl (ok_nilCheck_p · (.tmp rfl) hp9) ?_
    refine qS 28 rfl (ok_fieldAddr_s · fi66_1 (by decide) (.tmp rfl) rfl) ?_
    obtain ⟨p10, hp10, h⟩ := bindo h
    refine qS 29 rfl (ok_load_s · sc3 (.tmp rfl) rfl (ldI_out hp10)) ?_
    try dsimp only [w0, w1, w2, w3]
    refine qS 30 rfl (ok_ibin · (.tmp rfl) (.int _ _) rfl) ?_
    obtain ⟨p11, hp11, h⟩ := bindo h
    refine qS 31 rfl (ok_nilCheck_p · (.tmp rfl) hp11) ?_
    refine qS 32 rfl (ok_fieldAddr_s · fi66_1 (by decide) (.tmp rfl) rfl) ?_
    obtain ⟨p12, hp12, h⟩ := bindo h
    refine qN rfl (ok_store_s (v := (.int .i64 (w64 (p10 - 1)))) · sz3 (.tmp rfl) rfl (.tmp rfl) rfl hp12) ?_
    refine hr_region_end ?_
    try dsimp only [w0, w1, w2, w3]
    refine q_seq rfl ?_
    refine q_region rfl rfl ?_
    refine qS 6 rfl (ok_assign · (.bool _)) ?_
    refine hr_region_end ?_
    try dsimp only [w0, w1, w2, w3]
    cases h
    exact q_ret rfl at_.at_ rfl (res1 rfl rfl) ⟨rfl, rfl⟩
end
end pair_Rel_int_string_Remove
namespace pair_Rel_int_string_Drop
theorem at_ : FnAt Try.prog 11 Try.f11 := ⟨Try.func11, by kernel_rfl⟩
noncomputable def d0 := (Try.f11.body).getD .skip
noncomputable def r1 := kR (kA d0)
noncomputable def r3 := kR (kA (kB d0))
noncomputable def d5 := kA (kB (kB d0))
noncomputable def r6 := kR (kA d5)
noncomputable def r9 := kR (kA (kA (kB d5)))
noncomputable def r12 := kR (kA (kA (kB (kA (kB d5)))))
noncomputable def r13 := kR (kB (kA (kB (kA (kB d5)))))
noncomputable def r15 := kR (kA (kB (kB (kB d0))))
noncomputable def c10 : Code := .block 1 (.seq (.region 4 r12 false) (.region 5 r13 false))
noncomputable def c9 : Code := .region 3 r9 false
noncomputable def c0 : Code := .seq (.region 0 r1 false) (.seq (.region 1 r3 false) (.seq (.seq (.region 2 r6 false) (.block 0 (.rangeFunc (.tmp 9) #[10] c9 c10))) (.seq (.region 6 r15 false) .ret)))
theorem body : Try.f11.body = some c0 := by kernel_rfl
section
variable {base : Nat} {W0 : World} {β0 : Bt}
def J0 (D : Dp) (H : Hd) (k : Nat) (l : Nat) (y2 : (Option HA)) (y3 : (Option HA)) (y5 : (Option HA)) (y10 : (List UInt8)) (S : HS) : Option (HV × HS) :=
  (Option.bind (HS.begin_ S l) fun p8 =>
  (Option.bind (y2) fun p9 =>
  (Option.bind (HS.ldP p8 p9) fun p10 =>
  (Option.bind (y3) fun p11 =>
  (Option.bind (HS.ldI p8 .i64 p11) fun p12 =>
  (Option.bind (pair_Rel_int_string_Remove.f k p10 p12 y10 p8) fun p13 =>
  (Option.bind (y5) fun p14 =>
  (Option.bind (HS.ldI p13.2 .i64 p14) fun p15 =>
  (Option.bind (y5) fun p16 =>
  (Option.bind (HS.sets p13.2 p16 [(.int .i64 (w64 (p15 + 1)))]) fun p17 =>
  (HS.endr p17 l none)))))))))))
theorem J0_snd {D : Dp} {H : Hd} {k : Nat} {l : Nat} (hD : DSound Try.prog base W0 D) (hH : HSound Try.prog base W0 β0 H)  {y2 : (Option HA)} {y3 : (Option HA)} {y5 : (Option HA)} {y10 : (List UInt8)} {S : HS} {p : HV × HS} {g0 g1 g4 g6 g7 g8 g9 g11 g12 g13 g14 g15 g16 g17 : HV} (h : J0 D H k l y2 y3 y5 y10 S = some p) : HRun Try.prog base W0 β0 11 (some l) [.code c9, .beginRound, .code c10] ⟨[g0, g1, (.ptr y2), (.ptr y3), g4, (.ptr y5), g6, g7, g8, g9, (.str y10), g11, g12, g13, g14, g15, g16, g17], []⟩ S (fun v S1 => v = p.1 ∧ S1 = p.2) := by
  unfold J0 at h
  refine q_region rfl rfl ?_
  refine qS 6 rfl (ok_assign · (.tmp rfl)) ?_
  refine hr_region_end ?_
  try dsimp only [w0, w1, w2, w3]
  obtain ⟨p8, hp8, h⟩ := bindo h
  refine q_begin hp8 ?_
  refine q_block rfl ?_
  refine q_seq rfl ?_
  refine q_region rfl rfl ?_
  obtain ⟨p9, hp9, h⟩ := bindo h
  obtain ⟨p10, hp10, h⟩ := bindo h
  refine qS 11 rfl (ok_load_s · sc25 (.tmp rfl) hp9 (ldP_out hp10)) ?_
  obtain ⟨p11, hp11, h⟩ := bindo h
  obtain ⟨p12, hp12, h⟩ := bindo h
  refine qS 12 rfl (ok_load_s · sc3 (.tmp rfl) hp11 (ldI_out hp12)) ?_
  refine qS 13 rfl (ok_move · (.tmp rfl)) ?_
  obtain ⟨p13, hp13, h⟩ := bindo h
  refine q_call (dst := some 14) rfl (.func _) (.cons (.tmp rfl) (.cons (.tmp rfl) (.cons (.tmp rfl) Evs.nil))) (HInv.static pair_Rel_int_string_Remove.at_ pair_Rel_int_string_Remove.body (pair_Rel_int_string_Remove.snd  hp13)) ?_
  rintro _ _ ⟨rfl, rfl⟩
  refine hr_region_end ?_
  try dsimp only [w0, w1, w2, w3]
  refine q_region rfl rfl ?_
  obtain ⟨p14, hp14, h⟩ := bindo h
  obtain ⟨p15, hp15, h⟩ := bindo h
  refine qS 15 rfl (ok_load_s · sc3 (.tmp rfl) hp14 (ldI_out hp15)) ?_
  refine qS 16 rfl (ok_ibin · (.tmp rfl) (.int _ _) rfl) ?_
  obtain ⟨p16, hp16, h⟩ := bindo h
  obtain ⟨p17, hp17, h⟩ := bindo h
  refine qN rfl (ok_store_s (v := (.int .i64 (w64 (p15 + 1)))) · sz3 (.tmp rfl) hp16 (.tmp rfl) rfl hp17) ?_
  refine hr_region_end ?_
  try dsimp only [w0, w1, w2, w3]
  refine hr_inBlock ?_
  exact q_round_end h ⟨rfl, rfl⟩
def f (D : Dp) (H : Hd) (k : Nat) (x0 : (Option HA)) (x1 : Int) (S : HS) : Option ((Int) × HS) :=
  (letv (HS.new S (.cells 1 [[(.ptr x0)]] true)) fun p1 =>
  (letv (HS.new p1 (.cells 1 [[(.int .i64 x1)]] true)) fun p2 =>
  (letv (HS.new p2 (.cells 1 [[(.int .i64 0)]] true)) fun p3 =>
  (Option.bind (HS.sets p3 (HA.cell0 p2.next) [(.int .i64 0)]) fun p4 =>
  (Option.bind (HS.ldP p4 (HA.cell0 S.next)) fun p5 =>
  (Option.bind (HS.ldI p4 .i64 (HA.cell0 p1.next)) fun p6 =>
  (Option.bind (pair_Rel_int_string_Of.f p5 p6 p4) fun p7 =>
  (Option.bind (D (Hd.set H (HS.next p7.2 + 1) fun vs T =>
  (Option.bind (HS.lp T (HS.next p7.2 + 1)) fun u20 =>
  (Option.bind (args1 vs) fun ar18 =>
  (Option.bind (dS ar18) fun p19 =>
  (J0 D H k (HS.next p7.2 + 1) (some (HA.cell0 S.next)) (some (HA.cell0 p1.next)) (some (HA.cell0 p2.next)) p19 T))))) p7.1 [.fn (.yield (HS.next p7.2 + 1)) [] []] (HS.new (HS.new p7.2 .defer) (.loop .ready none))) fun p21 =>
  (Option.bind (HS.finish p21.2 (HS.next p7.2 + 1)) fun p22 =>
  (Option.bind (pcode p22.1) fun n23 =>
  (if n23 = 0 then
  (Option.bind (HS.ldI p22.2 .i64 (HA.cell0 p2.next)) fun p25 =>
  (Option.bind (HS.leave p22.2 (HS.next p7.2 :: [])) fun p26 =>
  some (p25, p26))) else
  none)))))))))))
theorem snd {D : Dp} {H : Hd} {k : Nat} {x0 : (Option HA)} {x1 : Int} {S : HS} (hD : DSound Try.prog base W0 D) (hH : HSound Try.prog base W0 β0 H)  {p : (Int) × HS} (h : f D H k x0 x1 S = some p) : HCall Try.prog base W0 β0 11 [(.ptr x0), (.int .i64 x1)] S (fun v S1 => v = (.int .i64 p.1) ∧ S1 = p.2) := by
  unfold f at h
  refine HCall.of_run at_.at_ body ?_
  show HRun Try.prog base W0 β0 11 none [.code c0] ⟨[(.ptr x0), (.int .i64 x1), τ, τ, τ, τ, τ, τ, τ, τ, τ, τ, τ, τ, τ, τ, τ, τ], []⟩ S _
  refine q_seq rfl ?_
  refine q_region rfl rfl ?_
  obtain ⟨p1, hp1, h⟩ := leto h
  refine qS 2 rfl (ok_box_e · (.tmp rfl) (Nat.zero_lt_succ _) rfl hp1) ?_
  obtain ⟨p2, hp2, h⟩ := leto h
  refine qS 3 rfl (ok_box_e · (.tmp rfl) (Nat.zero_lt_succ _) rfl hp2) ?_
  refine qS 4 rfl (ok_assign · (.int _ _)) ?_
  refine hr_region_end ?_
  try dsimp only [w0, w1, w2, w3]
  refine q_seq rfl ?_
  refine q_region rfl rfl ?_
  obtain ⟨p3, hp3, h⟩ := leto h
  refine qS 5 rfl (ok_alloc_e · zi3 zr3 (by decide) rfl hp3) ?_
  obtain ⟨p4, hp4, h⟩ := bindo h
  refine qN rfl (ok_store_s (v := (.int .i64 0)) · sz3 (.tmp rfl) rfl (.int _ _) rfl hp4) ?_
  refine hr_region_end ?_
  try dsimp only [w0, w1, w2, w3]
  refine q_seq rfl ?_
  refine q_seq rfl ?_
  refine q_region rfl rfl ?_
  obtain ⟨p5, hp5, h⟩ := bindo h
  refine qS 7 rfl (ok_load_s · sc25 (.tmp rfl) rfl (ldP_out hp5)) ?_
  obtain ⟨p6, hp6, h⟩ := bindo h
  refine qS 8 rfl (ok_load_s · sc3 (.tmp rfl) rfl (ldI_out hp6)) ?_
  obtain ⟨p7, hp7, h⟩ := bindo h
  refine q_call (dst := some 9) rfl (.func _) (.cons (.tmp rfl) (.cons (.tmp rfl) Evs.nil)) (HInv.static pair_Rel_int_string_Of.at_ pair_Rel_int_string_Of.body (pair_Rel_int_string_Of.snd  hp7)) ?_
  rintro _ _ ⟨rfl, rfl⟩
  refine hr_region_end ?_
  try dsimp only [w0, w1, w2, w3]
  refine q_block rfl ?_
  obtain ⟨p21, hp21, h⟩ := bindo h
  obtain ⟨p22, hp22, h⟩ := bindo h
  obtain ⟨n23, hn23, h⟩ := bindo h
  refine q_range (D := D) (H := H) rfl (.tmp rfl) hD hH hp21 hp22 ?_ ?_
  · intro β1 hle hLA vs T u T' hr
    obtain ⟨u20, hu20, hr⟩ := bindo hr
    obtain ⟨ar18, har18, hr⟩ := bindo hr
    obtain ⟨p19, hp19, hr⟩ := bindo hr
    rw [args1_out har18]
    refine q_yield2 hLA hu20 rfl rfl ?_
    rw [dS_out hp19]
    simp only [HAct.params, List.set_cons_zero, List.set_cons_succ]
    exact J0_snd hD (hH.up hle) hr
  · rcases ifc h with ⟨hc24, h⟩ | ⟨hc24, h⟩
    · rw [pcode0 hn23 hc24]
      simp only [jumped_none, jumped_some]
      refine hr_inBlock ?_
      refine q_seq rfl ?_
      refine q_region rfl rfl ?_
      obtain ⟨p25, hp25, h⟩ := bindo h
      refine qS 17 rfl (ok_load_s · sc3 (.tmp rfl) rfl (ldI_out hp25)) ?_
      refine qS 4 rfl (ok_assign · (.tmp rfl)) ?_
      refine hr_region_end ?_
      try dsimp only [w0, w1, w2, w3]
      obtain ⟨p26, hp26, h⟩ := bindo h
      cases h
      exact q_ret rfl at_.at_ hp26 (res1 rfl rfl) ⟨rfl, rfl⟩
    · cases h
end
end pair_Rel_int_string_Drop
namespace pair_Rel_int_string_Len
theorem at_ : FnAt Try.prog 16 Try.f16 := ⟨Try.func16, by kernel_rfl⟩
noncomputable def d0 := (Try.f16.body).getD .skip
noncomputable def r1 := kR (kA d0)
noncomputable def r4 := kR (kA (kA (kB d0)))
noncomputable def r7 := kR (kA (kA (kB (kA (kB d0)))))
noncomputable def r11 := kR (kA (kB (kB d0)))
noncomputable def c0 : Code := .seq (.region 0 r1 false) (.seq (.seq (.region 1 r4 false) (.cond (.tmp 4) (.seq (.region 2 r7 false) .ret) .skip)) (.seq (.region 3 r11 false) .ret))
theorem body : Try.f16.body = some c0 := by kernel_rfl
section
variable {base : Nat} {W0 : World} {β0 : Bt}
def f (x0 : (Option HA)) (S : HS) : Option ((Int) × HS) :=
  (if (Option.isNone x0) = true then
  some (0, S) else
  (Option.bind (x0) fun p2 =>
  (Option.bind (HS.ldI S .i64 (HA.fld p2 1)) fun p3 =>
  some (p3, S))))
theorem snd {x0 : (Option HA)} {S : HS}  {p : (Int) × HS} (h : f x0 S = some p) : HCall Try.prog base W0 β0 16 [(.ptr x0)] S (fun v S1 => v = (.int .i64 p.1) ∧ S1 = p.2) := by
  unfold f at h
  refine HCall.of_run at_.at_ body ?_
  show HRun Try.prog base W0 β0 16 none [.code c0] ⟨[(.ptr x0), τ, τ, τ, τ, τ, τ, τ, τ], []⟩ S _
  refine q_seq rfl ?_
  refine q_region rfl rfl ?_
  refine qS 2 rfl (ok_assign · (.int _ _)) ?_
  refine hr_region_end ?_
  try dsimp only [w0, w1, w2, w3]
  refine q_seq rfl ?_
  refine q_seq rfl ?_
  refine q_region rfl rfl ?_
  refine qS 3 rfl (ok_move · (.tmp rfl)) ?_
  refine qS 4 rfl (ok_nil_ptr · tu25 (.tmp rfl) (.inl ⟨rfl, rfl⟩)) ?_
  refine hr_region_end ?_
  try dsimp only [w0, w1, w2, w3]
  rcases ifc h with ⟨hc1, h⟩ | ⟨hc1, h⟩
  · refine q_cond_t rfl (.tmp rfl) hc1 ?_
    refine q_seq rfl ?_
    refine q_region rfl rfl ?_
    refine qS 2 rfl (ok_assign · (.int _ _)) ?_
    refine hr_region_end ?_
    try dsimp only [w0, w1, w2, w3]
    cases h
    exact q_ret rfl at_.at_ rfl (res1 rfl rfl) ⟨rfl, rfl⟩
  · refine q_cond_f rfl (.tmp rfl) (bfalse hc1) ?_
    refine q_skipc rfl ?_
    refine q_seq rfl ?_
    refine q_region rfl rfl ?_
    refine qS 5 rfl (ok_move · (.tmp rfl)) ?_
    obtain ⟨p2, hp2, h⟩ := bindo h
    refine qS 6 rfl (ok_nilCheck_p · (.tmp rfl) hp2) ?_
    refine qS 7 rfl (ok_fieldAddr_s · fi66_1 (by decide) (.tmp rfl) rfl) ?_
    obtain ⟨p3, hp3, h⟩ := bindo h
    refine qS 8 rfl (ok_load_s · sc3 (.tmp rfl) rfl (ldI_out hp3)) ?_
    try dsimp only [w0, w1, w2, w3]
    refine qS 2 rfl (ok_assign · (.tmp rfl)) ?_
    refine hr_region_end ?_
    try dsimp only [w0, w1, w2, w3]
    cases h
    exact q_ret rfl at_.at_ rfl (res1 rfl rfl) ⟨rfl, rfl⟩
end
end pair_Rel_int_string_Len
end Go.Proofs.Ytdgmehfhgppheaa.X
