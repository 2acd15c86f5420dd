/- Functions of the program, each as a Lean function over the layer HL: a call answers what the Lean function answers, where it answers. -/
import Derived.Test.YtlfdfkldolgkoaaProg
import Derived.Test.YtlfdfkldolgkoaaTmNone
namespace Go.Proofs.Ytlfdfkldolgkoaa.X
open Go.Proofs.Ytlfdfkldolgkoaa.HL
set_option linter.unusedVariables false
set_option linter.unusedSimpArgs false
set_option maxRecDepth 20000
set_option maxHeartbeats 4000000
namespace timer_Table_string_Due
abbrev id : Nat := 28
theorem at_ : FnAt Try.prog 28 Try.f28 := ⟨Try.func28, by kernel_rfl⟩
noncomputable def c0 : Code := (Try.f28.body).getD .skip
noncomputable def c1 : Code := match c0 with | .seq x _ => x | _ => .skip
noncomputable def c2 : Code := match c0 with | .seq _ x => x | _ => .skip
noncomputable def c3 : Code := match c2 with | .seq x _ => x | _ => .skip
noncomputable def c4 : Code := match c2 with | .seq _ x => x | _ => .skip
noncomputable def c5 : Code := match c4 with | .seq x _ => x | _ => .skip
noncomputable def c6 : Code := match c5 with | .seq x _ => x | _ => .skip
noncomputable def c7 : Code := match c5 with | .seq _ x => x | _ => .skip
noncomputable def c8 : Code := match c7 with | .cond _ x _ => x | _ => .skip
noncomputable def c9 : Code := match c8 with | .seq x _ => x | _ => .skip
noncomputable def c10 : Code := match c8 with | .seq _ x => x | _ => .skip
noncomputable def c11 : Code := match c10 with | .seq x _ => x | _ => .skip
noncomputable def c12 : Code := match c11 with | .block _ x => x | _ => .skip
noncomputable def c13 : Code := match c12 with | .loop x => x | _ => .skip
noncomputable def c14 : Code := match c13 with | .seq x _ => x | _ => .skip
noncomputable def c15 : Code := match c14 with | .seq x _ => x | _ => .skip
noncomputable def c16 : Code := match c14 with | .seq _ x => x | _ => .skip
noncomputable def c17 : Code := match c16 with | .cond _ x _ => x | _ => .skip
noncomputable def c18 : Code := match c16 with | .cond _ _ x => x | _ => .skip
noncomputable def c19 : Code := match c13 with | .seq _ x => x | _ => .skip
noncomputable def c20 : Code := match c19 with | .block _ x => x | _ => .skip
noncomputable def c21 : Code := match c10 with | .seq _ x => x | _ => .skip
noncomputable def c22 : Code := match c7 with | .cond _ _ x => x | _ => .skip
noncomputable def c23 : Code := match c4 with | .seq _ x => x | _ => .skip
noncomputable def c24 : Code := match c23 with | .seq x _ => x | _ => .skip
noncomputable def c25 : Code := match c23 with | .seq _ x => x | _ => .skip
theorem e0 : c0 = .seq c1 c2 := by kernel_rfl
noncomputable def r1 : Array Oper := match c1 with | .region _ x _ => x | _ => #[]
theorem e1 : c1 = .region 0 r1 false := by kernel_rfl
theorem e2 : c2 = .seq c3 c4 := by kernel_rfl
noncomputable def r3 : Array Oper := match c3 with | .region _ x _ => x | _ => #[]
theorem e3 : c3 = .region 1 r3 false := by kernel_rfl
theorem e4 : c4 = .seq c5 c23 := by kernel_rfl
theorem e5 : c5 = .seq c6 c7 := by kernel_rfl
noncomputable def r6 : Array Oper := match c6 with | .region _ x _ => x | _ => #[]
theorem e6 : c6 = .region 2 r6 false := by kernel_rfl
theorem e7 : c7 = .cond (.tmp 8) c8 c22 := by kernel_rfl
theorem e8 : c8 = .seq c9 c10 := by kernel_rfl
noncomputable def r9 : Array Oper := match c9 with | .region _ x _ => x | _ => #[]
theorem e9 : c9 = .region 3 r9 false := by kernel_rfl
theorem e10 : c10 = .seq c11 c21 := by kernel_rfl
theorem e11 : c11 = .block 0 c12 := by kernel_rfl
theorem e12 : c12 = .loop c13 := by kernel_rfl
theorem e13 : c13 = .seq c14 c19 := by kernel_rfl
theorem e14 : c14 = .seq c15 c16 := by kernel_rfl
noncomputable def r15 : Array Oper := match c15 with | .region _ x _ => x | _ => #[]
theorem e15 : c15 = .region 4 r15 false := by kernel_rfl
theorem e16 : c16 = .cond (.tmp 27) c17 c18 := by kernel_rfl
theorem e17 : c17 = .skip := by kernel_rfl
theorem e18 : c18 = .exit 0 := by kernel_rfl
theorem e19 : c19 = .block 1 c20 := by kernel_rfl
noncomputable def r20 : Array Oper := match c20 with | .region _ x _ => x | _ => #[]
theorem e20 : c20 = .region 5 r20 false := by kernel_rfl
noncomputable def r21 : Array Oper := match c21 with | .region _ x _ => x | _ => #[]
theorem e21 : c21 = .region 6 r21 false := by kernel_rfl
theorem e22 : c22 = .skip := by kernel_rfl
theorem e23 : c23 = .seq c24 c25 := by kernel_rfl
noncomputable def r24 : Array Oper := match c24 with | .region _ x _ => x | _ => #[]
theorem e24 : c24 = .region 7 r24 false := by kernel_rfl
theorem e25 : c25 = .ret := by kernel_rfl
theorem body : Try.f28.body = some c0 := by kernel_rfl
section
variable {base : Nat} {W0 : World} {β0 : Bt}
def J2 (k : Nat) (y5 : (Option HA)) (S : HS) : Option ((HV) × HS) :=
  some ((HV.fn (.func 40) [] [(.ptr y5)]), S)
theorem J2_snd {k : Nat}  {y5 : (Option HA)} {S : HS} {p : (HV) × HS} {g0 g1 g2 g3 g4 g6 g7 g8 g9 g10 g11 g12 g13 g14 g15 g16 g17 g18 g19 g20 g21 g22 g23 g24 g25 g26 g27 g28 g29 g30 g31 g32 g33 g34 g35 g36 g37 : HV} (h : J2 k y5 S = some p) : HRun Try.prog base W0 β0 28 none [.code c23] ⟨[g0, g1, g2, g3, g4, (.ptr y5), g6, g7, g8, g9, g10, g11, g12, g13, g14, g15, g16, g17, g18, g19, g20, g21, g22, g23, g24, g25, g26, g27, g28, g29, g30, g31, g32, g33, g34, g35, g36, g37], []⟩ S (fun v S1 => v = p.1 ∧ S1 = p.2) := by
  unfold J2 at h
  refine q_seq e23 ?_
  refine q_region e24 rfl ?_
  refine q_op (dst := some 37) rfl (fun _ ho => ok_makeFunc ho Evs.nil (.cons (.tmp rfl) Evs.nil)) ?_
  refine q_op (dst := some 4) rfl (fun _ ho => ok_assign ho (.tmp rfl)) ?_
  refine hr_region_end ?_
  try dsimp only [HAct.put, List.set_cons_zero, List.set_cons_succ]
  cases h
  exact q_ret e25 at_.at_ rfl (res1 rfl rfl) ⟨rfl, rfl⟩
def J1 (k : Nat) (rec0 : (Option HA) → Int → (Option HA) → Int → HS → Option ((HV) × HS)) (y0 : (Option HA)) (y1 : Int) (y5 : (Option HA)) (y6 : Int) (y27 : Bool) (S : HS) : Option ((HV) × HS) :=
  (if y27 = true then
  rec0 y0 y1 y5 (w64 (y6 + 1)) S else
  (Option.bind (y0) fun p11 =>
  (Option.bind (HS.ldSl S (HA.fld p11 0)) fun p12 =>
  (Option.bind (HS.cut S p12 0 y6 2) fun p13 =>
  (Option.bind (slices_Clone_timer_item_string_timer_item_string.f p13 S) fun p14 =>
  (Option.bind (y5) fun p15 =>
  (Option.bind (HS.sets p14.2 p15 [(Sl.hv p14.1)]) fun p16 =>
  J2 k y5 p16)))))))
theorem J1_snd {k : Nat} {rec0 : (Option HA) → Int → (Option HA) → Int → HS → Option ((HV) × HS)} (hrec0 : ∀ ⦃y0 : (Option HA)⦄ ⦃y1 : Int⦄ ⦃y5 : (Option HA)⦄ ⦃y6 : Int⦄ ⦃S : HS⦄ ⦃p : (HV) × HS⦄ ⦃g2 g3 g4 g7 g8 g9 g10 g11 g12 g13 g14 g15 g16 g17 g18 g19 g20 g21 g22 g23 g24 g25 g26 g27 g28 g29 g30 g31 g32 g33 g34 g35 g36 g37 : HV⦄, rec0 y0 y1 y5 y6 S = some p → HRun Try.prog base W0 β0 28 none [.inLoop c13, .inBlock 0, .code c21, .code c23] ⟨[(.ptr y0), (.int .i64 y1), g2, g3, g4, (.ptr y5), (.int .i64 y6), g7, g8, g9, g10, g11, g12, g13, g14, g15, g16, g17, g18, g19, g20, g21, g22, g23, g24, g25, g26, g27, g28, g29, g30, g31, g32, g33, g34, g35, g36, g37], []⟩ S (fun v S1 => v = p.1 ∧ S1 = p.2)) {y0 : (Option HA)} {y1 : Int} {y5 : (Option HA)} {y6 : Int} {y27 : Bool} {S : HS} {p : (HV) × HS} {g2 g3 g4 g7 g8 g9 g10 g11 g12 g13 g14 g15 g16 g17 g18 g19 g20 g21 g22 g23 g24 g25 g26 g28 g29 g30 g31 g32 g33 g34 g35 g36 g37 : HV} (h : J1 k rec0 y0 y1 y5 y6 y27 S = some p) : HRun Try.prog base W0 β0 28 none [.code c16, .code c19, .inLoop c13, .inBlock 0, .code c21, .code c23] ⟨[(.ptr y0), (.int .i64 y1), g2, g3, g4, (.ptr y5), (.int .i64 y6), g7, g8, g9, g10, g11, g12, g13, g14, g15, g16, g17, g18, g19, g20, g21, g22, g23, g24, g25, g26, (.bool y27), g28, g29, g30, g31, g32, g33, g34, g35, g36, g37], []⟩ S (fun v S1 => v = p.1 ∧ S1 = p.2) := by
  unfold J1 at h
  rcases ifc h with ⟨hc10, h⟩ | ⟨hc10, h⟩
  · refine q_cond_t e16 (.tmp rfl) hc10 ?_
    refine q_skipc e17 ?_
    refine q_block e19 ?_
    refine q_region e20 rfl ?_
    refine q_op (dst := some 28) rfl (fun _ ho => ok_move ho (.tmp rfl)) ?_
    refine q_op (dst := some 29) rfl (fun _ ho => ok_ibin ho (.tmp rfl) (.int _ _) rfl) ?_
    refine q_op (dst := some 6) rfl (fun _ ho => ok_assign ho (.tmp rfl)) ?_
    refine hr_region_end ?_
    try dsimp only [HAct.put, List.set_cons_zero, List.set_cons_succ]
    refine hr_inBlock ?_
    try dsimp only [HAct.put, List.set_cons_zero, List.set_cons_succ]
    exact hrec0 h
  · refine q_cond_f e16 (.tmp rfl) (bfalse hc10) ?_
    refine q_exit e18 rfl ?_
    refine q_region e21 rfl ?_
    refine q_op (dst := some 30) rfl (fun _ ho => ok_move ho (.tmp rfl)) ?_
    obtain ⟨p11, hp11, h⟩ := bindo h
    refine q_op (dst := some 31) rfl (fun _ ho => ok_nilCheck_p ho (.tmp rfl) hp11) ?_
    refine q_op (dst := some 32) rfl (fun _ ho => ok_fieldAddr_s ho fi60_0 (by decide) (.tmp rfl) rfl) ?_
    obtain ⟨p12, hp12, h⟩ := bindo h
    refine q_op (dst := some 33) rfl (fun _ ho => ok_load_s ho sc58 (.tmp rfl) rfl (ldSl_out hp12)) ?_
    try dsimp only [HAct.put, List.set_cons_zero, List.set_cons_succ]
    refine q_op (dst := some 34) rfl (fun _ ho => ok_move ho (.tmp rfl)) ?_
    obtain ⟨p13, hp13, h⟩ := bindo h
    refine q_op (dst := some 35) rfl (fun _ ho => ok_slice (kl := .i64) (kh := .i64) (s := p12) (l := 0) (h := y6) ho tu58 si63 (.tmp rfl) (.inl ⟨rfl, rfl⟩) (.inr ⟨_, rfl, (.tmp rfl)⟩) hp13) ?_
    obtain ⟨p14, hp14, h⟩ := bindo h
    refine q_call (dst := some 36) rfl (.func _) (.cons (.tmp rfl) Evs.nil) (HInv.static slices_Clone_timer_item_string_timer_item_string.at_ slices_Clone_timer_item_string_timer_item_string.body (slices_Clone_timer_item_string_timer_item_string.snd  hp14)) ?_
    rintro _ _ ⟨rfl, rfl⟩
    obtain ⟨p15, hp15, h⟩ := bindo h
    obtain ⟨p16, hp16, h⟩ := bindo h
    refine q_op (dst := none) rfl (fun _ ho => ok_store_s (v := (Sl.hv p14.1)) ho sz58 (.tmp rfl) hp15 (.tmp rfl) rfl hp16) ?_
    refine hr_region_end ?_
    try dsimp only [HAct.put, List.set_cons_zero, List.set_cons_succ]
    try dsimp only [HAct.put, List.set_cons_zero, List.set_cons_succ]
    exact J2_snd  h
def L0 (k : Nat) : Nat → (Option HA) → Int → (Option HA) → Int → HS → Option ((HV) × HS)
  | 0, _, _, _, _, _ => none
  | n + 1, y0, y1, y5, y6, S =>
    (Option.bind (y0) fun p3 =>
    (Option.bind (HS.ldSl S (HA.fld p3 0)) fun p4 =>
    (if y6 < (Sl.len p4 : Int) then
    (Option.bind (y0) fun p6 =>
    (Option.bind (HS.ldSl S (HA.fld p6 0)) fun p7 =>
    (Option.bind (HS.idx S p7 y6 2) fun p8 =>
    (Option.bind (HS.ldI S .i64 (HA.fld p8 1)) fun p9 =>
    J1 k (L0 k n) y0 y1 y5 y6 (decide (p9 ≤ y1)) S)))) else
    J1 k (L0 k n) y0 y1 y5 y6 false S)))
theorem L0_snd {k : Nat}  : ∀ {n : Nat} ⦃y0 : (Option HA)⦄ ⦃y1 : Int⦄ ⦃y5 : (Option HA)⦄ ⦃y6 : Int⦄ ⦃S : HS⦄ ⦃p : (HV) × HS⦄ ⦃g2 g3 g4 g7 g8 g9 g10 g11 g12 g13 g14 g15 g16 g17 g18 g19 g20 g21 g22 g23 g24 g25 g26 g27 g28 g29 g30 g31 g32 g33 g34 g35 g36 g37 : HV⦄, L0 k n y0 y1 y5 y6 S = some p → HRun Try.prog base W0 β0 28 none [.inLoop c13, .inBlock 0, .code c21, .code c23] ⟨[(.ptr y0), (.int .i64 y1), g2, g3, g4, (.ptr y5), (.int .i64 y6), g7, g8, g9, g10, g11, g12, g13, g14, g15, g16, g17, g18, g19, g20, g21, g22, g23, g24, g25, g26, g27, g28, g29, g30, g31, g32, g33, g34, g35, g36, g37], []⟩ S (fun v S1 => v = p.1 ∧ S1 = p.2) := by
  intro n
  induction n with
  | zero => intro _ _ _ _ _ _ _ _ _ _ _ _ _ _ _ _ _ _ _ _ _ _ _ _ _ _ _ _ _ _ _ _ _ _ _ _ _ _ _ _ h; cases h
  | succ n ih =>
    intro y0 y1 y5 y6 S p g2 g3 g4 g7 g8 g9 g10 g11 g12 g13 g14 g15 g16 g17 g18 g19 g20 g21 g22 g23 g24 g25 g26 g27 g28 g29 g30 g31 g32 g33 g34 g35 g36 g37 h
    simp only [L0] at h
    refine hr_inLoop ?_
    refine q_seq e13 ?_
    refine q_seq e14 ?_
    refine q_region e15 rfl ?_
    refine q_op (dst := some 9) rfl (fun _ ho => ok_move ho (.tmp rfl)) ?_
    refine q_op (dst := some 10) rfl (fun _ ho => ok_move ho (.tmp rfl)) ?_
    obtain ⟨p3, hp3, h⟩ := bindo h
    refine q_op (dst := some 11) rfl (fun _ ho => ok_nilCheck_p ho (.tmp rfl) hp3) ?_
    refine q_op (dst := some 12) rfl (fun _ ho => ok_fieldAddr_s ho fi60_0 (by decide) (.tmp rfl) rfl) ?_
    try dsimp only [HAct.put, List.set_cons_zero, List.set_cons_succ]
    obtain ⟨p4, hp4, h⟩ := bindo h
    refine q_op (dst := some 13) rfl (fun _ ho => ok_load_s ho sc58 (.tmp rfl) rfl (ldSl_out hp4)) ?_
    refine q_op (dst := some 14) rfl (fun _ ho => ok_len_sl (q := Sl.a p4) (n := Sl.len p4) (z := Sl.cap p4) ho rfl tu58 (.tmp rfl)) ?_
    refine q_op (dst := some 15) rfl (fun _ ho => ok_ibin ho (.tmp rfl) (.tmp rfl) rfl) ?_
    refine q_op (dst := some 16) rfl (fun _ ho => ok_move ho (.tmp rfl)) ?_
    try dsimp only [HAct.put, List.set_cons_zero, List.set_cons_succ]
    rcases ifc h with ⟨hc5, h⟩ | ⟨hc5, h⟩
    · refine q_op_g (t := 16) (dst := some 17) rfl rfl rfl (decide_eq_true hc5) (fun _ ho => ok_move ho (.tmp rfl)) ?_
      obtain ⟨p6, hp6, h⟩ := bindo h
      refine q_op_g (t := 16) (dst := some 18) rfl rfl rfl (decide_eq_true hc5) (fun _ ho => ok_nilCheck_p ho (.tmp rfl) hp6) ?_
      refine q_op_g (t := 16) (dst := some 19) rfl rfl rfl (decide_eq_true hc5) (fun _ ho => ok_fieldAddr_s ho fi60_0 (by decide) (.tmp rfl) rfl) ?_
      obtain ⟨p7, hp7, h⟩ := bindo h
      refine q_op_g (t := 16) (dst := some 20) rfl rfl rfl (decide_eq_true hc5) (fun _ ho => ok_load_s ho sc58 (.tmp rfl) rfl (ldSl_out hp7)) ?_
      try dsimp only [HAct.put, List.set_cons_zero, List.set_cons_succ]
      refine q_op_g (t := 16) (dst := some 21) rfl rfl rfl (decide_eq_true hc5) (fun _ ho => ok_move ho (.tmp rfl)) ?_
      obtain ⟨p8, hp8, h⟩ := bindo h
      refine q_op_g (t := 16) (dst := some 22) rfl rfl rfl (decide_eq_true hc5) (fun _ ho => ok_indexAddr (s := p7) ho tu58 sz63 (.tmp rfl) (.tmp rfl) hp8) ?_
      refine q_op_g (t := 16) (dst := some 23) rfl rfl rfl (decide_eq_true hc5) (fun _ ho => ok_fieldAddr_s ho fi63_1 (by decide) (.tmp rfl) rfl) ?_
      obtain ⟨p9, hp9, h⟩ := bindo h
      refine q_op_g (t := 16) (dst := some 24) rfl rfl rfl (decide_eq_true hc5) (fun _ ho => ok_load_s ho sc3 (.tmp rfl) rfl (ldI_out hp9)) ?_
      try dsimp only [HAct.put, List.set_cons_zero, List.set_cons_succ]
      refine q_op_g (t := 16) (dst := some 25) rfl rfl rfl (decide_eq_true hc5) (fun _ ho => ok_move ho (.tmp rfl)) ?_
      refine q_op_g (t := 16) (dst := some 26) rfl rfl rfl (decide_eq_true hc5) (fun _ ho => ok_ibin ho (.tmp rfl) (.tmp rfl) rfl) ?_
      refine q_op (dst := some 27) rfl (fun _ ho => ok_pick_tt ho (.tmp rfl) (decide_eq_true hc5) (.tmp rfl)) ?_
      refine hr_region_end ?_
      try dsimp only [HAct.put, List.set_cons_zero, List.set_cons_succ]
      try dsimp only [HAct.put, List.set_cons_zero, List.set_cons_succ]
      exact J1_snd ih h
    · refine q_skip (dst := some 17) (t := 16) rfl rfl rfl (decide_eq_false hc5) ?_
      refine q_skip (dst := some 18) (t := 16) rfl rfl rfl (decide_eq_false hc5) ?_
      refine q_skip (dst := some 19) (t := 16) rfl rfl rfl (decide_eq_false hc5) ?_
      refine q_skip (dst := some 20) (t := 16) rfl rfl rfl (decide_eq_false hc5) ?_
      try dsimp only [HAct.put, List.set_cons_zero, List.set_cons_succ]
      refine q_skip (dst := some 21) (t := 16) rfl rfl rfl (decide_eq_false hc5) ?_
      refine q_skip (dst := some 22) (t := 16) rfl rfl rfl (decide_eq_false hc5) ?_
      refine q_skip (dst := some 23) (t := 16) rfl rfl rfl (decide_eq_false hc5) ?_
      refine q_skip (dst := some 24) (t := 16) rfl rfl rfl (decide_eq_false hc5) ?_
      try dsimp only [HAct.put, List.set_cons_zero, List.set_cons_succ]
      refine q_skip (dst := some 25) (t := 16) rfl rfl rfl (decide_eq_false hc5) ?_
      refine q_skip (dst := some 26) (t := 16) rfl rfl rfl (decide_eq_false hc5) ?_
      refine q_op (dst := some 27) rfl (fun _ ho => ok_pick_ff ho (.tmp rfl) (decide_eq_false hc5) (.bool _)) ?_
      refine hr_region_end ?_
      try dsimp only [HAct.put, List.set_cons_zero, List.set_cons_succ]
      try dsimp only [HAct.put, List.set_cons_zero, List.set_cons_succ]
      exact J1_snd ih h
def f (k : Nat) (x0 : (Option HA)) (x1 : Int) (S : HS) : Option ((HV) × HS) :=
  (letv (HS.new S (.cells 1 [[(Sl.hv Sl.nil)]] true)) fun p1 =>
  (if (!Option.isNone x0) = true then
  L0 k k x0 x1 (some (HA.cell0 S.next)) 0 p1 else
  J2 k (some (HA.cell0 S.next)) p1))
theorem snd {k : Nat} {x0 : (Option HA)} {x1 : Int} {S : HS}  {p : (HV) × HS} (h : f k x0 x1 S = some p) : HCall Try.prog base W0 β0 28 [(.ptr x0), (.int .i64 x1)] S (fun v S1 => v = p.1 ∧ S1 = p.2) := by
  unfold f at h
  refine HCall.of_run at_.at_ body ?_
  show HRun Try.prog base W0 β0 28 none [.code c0] ⟨[(.ptr x0), (.int .i64 x1), .tup [], .tup [], .tup [], .tup [], .tup [], .tup [], .tup [], .tup [], .tup [], .tup [], .tup [], .tup [], .tup [], .tup [], .tup [], .tup [], .tup [], .tup [], .tup [], .tup [], .tup [], .tup [], .tup [], .tup [], .tup [], .tup [], .tup [], .tup [], .tup [], .tup [], .tup [], .tup [], .tup [], .tup [], .tup [], .tup []], []⟩ S _
  refine q_seq e0 ?_
  refine q_region e1 rfl ?_
  refine q_op (dst := some 4) rfl (fun _ ho => ok_assign ho (.const fun _ => .nilFn)) ?_
  refine hr_region_end ?_
  try dsimp only [HAct.put, List.set_cons_zero, List.set_cons_succ]
  refine q_seq e2 ?_
  refine q_region e3 rfl ?_
  obtain ⟨p1, hp1, h⟩ := leto h
  refine q_op (dst := some 5) rfl (fun _ ho => ok_alloc_e ho zi58 zr58 (by decide) rfl hp1) ?_
  refine hr_region_end ?_
  try dsimp only [HAct.put, List.set_cons_zero, List.set_cons_succ]
  refine q_seq e4 ?_
  refine q_seq e5 ?_
  refine q_region e6 rfl ?_
  refine q_op (dst := some 7) rfl (fun _ ho => ok_move ho (.tmp rfl)) ?_
  refine q_op (dst := some 8) rfl (fun _ ho => ok_nil_ptr ho tu25 (.tmp rfl) (.inr ⟨rfl, rfl⟩)) ?_
  refine hr_region_end ?_
  try dsimp only [HAct.put, List.set_cons_zero, List.set_cons_succ]
  rcases ifc h with ⟨hc2, h⟩ | ⟨hc2, h⟩
  · refine q_cond_t e7 (.tmp rfl) hc2 ?_
    refine q_seq e8 ?_
    refine q_region e9 rfl ?_
    refine q_op (dst := some 6) rfl (fun _ ho => ok_assign ho (.int _ _)) ?_
    refine hr_region_end ?_
    try dsimp only [HAct.put, List.set_cons_zero, List.set_cons_succ]
    refine q_seq e10 ?_
    refine q_block e11 ?_
    refine q_loop e12 ?_
    try dsimp only [HAct.put, List.set_cons_zero, List.set_cons_succ]
    exact L0_snd  h
  · refine q_cond_f e7 (.tmp rfl) (bfalse hc2) ?_
    refine q_skipc e22 ?_
    try dsimp only [HAct.put, List.set_cons_zero, List.set_cons_succ]
    exact J2_snd  h
end
end timer_Table_string_Due
namespace timer_Table_string_Take
abbrev id : Nat := 11
theorem at_ : FnAt Try.prog 11 Try.f11 := ⟨Try.func11, by kernel_rfl⟩
noncomputable def c0 : Code := (Try.f11.body).getD .skip
noncomputable def c1 : Code := match c0 with | .seq x _ => x | _ => .skip
noncomputable def c2 : Code := match c0 with | .seq _ x => x | _ => .skip
noncomputable def c3 : Code := match c2 with | .seq x _ => x | _ => .skip
noncomputable def c4 : Code := match c2 with | .seq _ x => x | _ => .skip
noncomputable def c5 : Code := match c4 with | .seq x _ => x | _ => .skip
noncomputable def c6 : Code := match c5 with | .seq x _ => x | _ => .skip
noncomputable def c7 : Code := match c5 with | .seq _ x => x | _ => .skip
noncomputable def c8 : Code := match c7 with | .block _ x => x | _ => .skip
noncomputable def c9 : Code := match c8 with | .rangeFunc _ _ x _ => x | _ => .skip
noncomputable def c10 : Code := match c8 with | .rangeFunc _ _ _ x => x | _ => .skip
noncomputable def c11 : Code := match c10 with | .block _ x => x | _ => .skip
noncomputable def c12 : Code := match c11 with | .seq x _ => x | _ => .skip
noncomputable def c13 : Code := match c11 with | .seq _ x => x | _ => .skip
noncomputable def c14 : Code := match c4 with | .seq _ x => x | _ => .skip
noncomputable def c15 : Code := match c14 with | .seq x _ => x | _ => .skip
noncomputable def c16 : Code := match c14 with | .seq _ x => x | _ => .skip
theorem e0 : c0 = .seq c1 c2 := by kernel_rfl
noncomputable def r1 : Array Oper := match c1 with | .region _ x _ => x | _ => #[]
theorem e1 : c1 = .region 0 r1 false := by kernel_rfl
theorem e2 : c2 = .seq c3 c4 := by kernel_rfl
noncomputable def r3 : Array Oper := match c3 with | .region _ x _ => x | _ => #[]
theorem e3 : c3 = .region 1 r3 false := by kernel_rfl
theorem e4 : c4 = .seq c5 c14 := by kernel_rfl
theorem e5 : c5 = .seq c6 c7 := by kernel_rfl
noncomputable def r6 : Array Oper := match c6 with | .region _ x _ => x | _ => #[]
theorem e6 : c6 = .region 2 r6 false := by kernel_rfl
theorem e7 : c7 = .block 0 c8 := by kernel_rfl
theorem e8 : c8 = .rangeFunc (.tmp 9) #[10, 11] c9 c10 := by kernel_rfl
noncomputable def r9 : Array Oper := match c9 with | .region _ x _ => x | _ => #[]
theorem e9 : c9 = .region 3 r9 false := by kernel_rfl
theorem e10 : c10 = .block 1 c11 := by kernel_rfl
theorem e11 : c11 = .seq c12 c13 := by kernel_rfl
noncomputable def r12 : Array Oper := match c12 with | .region _ x _ => x | _ => #[]
theorem e12 : c12 = .region 4 r12 false := by kernel_rfl
noncomputable def r13 : Array Oper := match c13 with | .region _ x _ => x | _ => #[]
theorem e13 : c13 = .region 5 r13 false := by kernel_rfl
theorem e14 : c14 = .seq c15 c16 := by kernel_rfl
noncomputable def r15 : Array Oper := match c15 with | .region _ x _ => x | _ => #[]
theorem e15 : c15 = .region 6 r15 false := by kernel_rfl
theorem e16 : c16 = .ret := by kernel_rfl
theorem body : Try.f11.body = some c0 := by kernel_rfl
section
variable {base : Nat} {W0 : World} {β0 : Bt}
def J0 (D : Dp) (H : Hd) (k : Nat) (l : Nat) (y2 : (Option HA)) (y5 : (Option HA)) (y10 : (List UInt8)) (S : HS) : Option (HV × HS) :=
  (Option.bind (HS.begin_ S l) fun p5 =>
  (Option.bind (y5) fun p6 =>
  (Option.bind (HS.ldSl p5 p6) fun p7 =>
  (letv (HS.lit p5 [[(.str y10)]] 1) fun p8 =>
  (Option.bind (HS.rows (p8.2) (p8.1) 1) fun p9 =>
  (Option.bind (HS.app (p8.2) p7 p9 1) fun p10 =>
  (Option.bind (y5) fun p11 =>
  (Option.bind (HS.sets (p10.2) p11 [(Sl.hv (p10.1))]) fun p12 =>
  (Option.bind (y2) fun p13 =>
  (Option.bind (HS.ldP p12 p13) fun p14 =>
  (Option.bind (timer_Table_string_Stop.f D H k p14 y10 p12) fun p15 =>
  (HS.endr p15.2 l none))))))))))))
theorem J0_snd {D : Dp} {H : Hd} {k : Nat} {l : Nat} (hD : DSound Try.prog base W0 D) (hH : HSound Try.prog base W0 β0 H)  {y2 : (Option HA)} {y5 : (Option HA)} {y10 : (List UInt8)} {S : HS} {p : HV × HS} {g0 g1 g3 g4 g6 g7 g8 g9 g11 g12 g13 g14 g15 g16 g17 g18 g19 : HV} (h : J0 D H k l y2 y5 y10 S = some p) : HRun Try.prog base W0 β0 11 (some l) [.code c9, .beginRound, .code c10] ⟨[g0, g1, (.ptr y2), g3, g4, (.ptr y5), g6, g7, g8, g9, (.str y10), g11, g12, g13, g14, g15, g16, g17, g18, g19], []⟩ S (fun v S1 => v = p.1 ∧ S1 = p.2) := by
  unfold J0 at h
  refine q_region e9 rfl ?_
  refine q_op (dst := some 6) rfl (fun _ ho => ok_assign ho (.tmp rfl)) ?_
  refine hr_region_end ?_
  try dsimp only [HAct.put, List.set_cons_zero, List.set_cons_succ]
  obtain ⟨p5, hp5, h⟩ := bindo h
  refine q_begin hp5 ?_
  refine q_block e10 ?_
  refine q_seq e11 ?_
  refine q_region e12 rfl ?_
  obtain ⟨p6, hp6, h⟩ := bindo h
  obtain ⟨p7, hp7, h⟩ := bindo h
  refine q_op (dst := some 12) rfl (fun _ ho => ok_load_s ho sc34 (.tmp rfl) hp6 (ldSl_out hp7)) ?_
  refine q_op (dst := some 13) rfl (fun _ ho => ok_move ho (.tmp rfl)) ?_
  obtain ⟨p8, hp8, h⟩ := leto h
  refine q_op (dst := some 14) rfl (fun _ ho => ok_buildSlice_s (xs := [(.tmp 13)]) el34 ho rfl rfl (by decide) (.cons (.tmp rfl) Evs.nil) rfl rfl hp8) ?_
  obtain ⟨p9, hp9, h⟩ := bindo h
  obtain ⟨p10, hp10, h⟩ := bindo h
  refine q_op (dst := some 15) rfl (fun _ ho => ok_append (s := p7) (s1 := (p8.1)) el34 ho rfl rfl ⟨_, tu34⟩ (.tmp rfl) (.tmp rfl) hp9 hp10) ?_
  try dsimp only [HAct.put, List.set_cons_zero, List.set_cons_succ]
  obtain ⟨p11, hp11, h⟩ := bindo h
  obtain ⟨p12, hp12, h⟩ := bindo h
  refine q_op (dst := none) rfl (fun _ ho => ok_store_s (v := (Sl.hv (p10.1))) ho sz34 (.tmp rfl) hp11 (.tmp rfl) rfl hp12) ?_
  refine hr_region_end ?_
  try dsimp only [HAct.put, List.set_cons_zero, List.set_cons_succ]
  refine q_region e13 rfl ?_
  obtain ⟨p13, hp13, h⟩ := bindo h
  obtain ⟨p14, hp14, h⟩ := bindo h
  refine q_op (dst := some 16) rfl (fun _ ho => ok_load_s ho sc25 (.tmp rfl) hp13 (ldP_out hp14)) ?_
  refine q_op (dst := some 17) rfl (fun _ ho => ok_move ho (.tmp rfl)) ?_
  obtain ⟨p15, hp15, h⟩ := bindo h
  refine q_call (dst := some 18) rfl (.func _) (.cons (.tmp rfl) (.cons (.tmp rfl) Evs.nil)) (HInv.static timer_Table_string_Stop.at_ timer_Table_string_Stop.body (timer_Table_string_Stop.snd hD hH hp15)) ?_
  rintro _ _ ⟨rfl, rfl⟩
  refine hr_region_end ?_
  try dsimp only [HAct.put, List.set_cons_zero, List.set_cons_succ]
  refine hr_inBlock ?_
  exact q_round_end h ⟨rfl, rfl⟩
def f (D : Dp) (H : Hd) (k : Nat) (x0 : (Option HA)) (x1 : Int) (S : HS) : Option ((Sl) × HS) :=
  (letv (HS.new S (.cells 1 [[(.ptr x0)]] true)) fun p1 =>
  (letv (HS.new p1 (.cells 1 [[(Sl.hv Sl.nil)]] true)) fun p2 =>
  (Option.bind (HS.ldP p2 (HA.cell0 S.next)) fun p3 =>
  (Option.bind (timer_Table_string_Due.f k p3 x1 p2) fun p4 =>
  (Option.bind (D (Hd.set H (HS.next p4.2 + 1) fun vs T =>
  (Option.bind (HS.lp T (HS.next p4.2 + 1)) fun u19 =>
  (Option.bind (args2 vs) fun ar16 =>
  (Option.bind (dS ar16.1) fun p17 =>
  (Option.bind (dI .i64 ar16.2) fun p18 =>
  (J0 D H k (HS.next p4.2 + 1) (some (HA.cell0 S.next)) (some (HA.cell0 p1.next)) p17 T)))))) p4.1 [.fn (.yield (HS.next p4.2 + 1)) [] []] (HS.new (HS.new p4.2 .defer) (.loop .ready none))) fun p20 =>
  (Option.bind (HS.finish p20.2 (HS.next p4.2 + 1)) fun p21 =>
  (Option.bind (pcode p21.1) fun n22 =>
  (if n22 = 0 then
  (Option.bind (HS.ldSl p21.2 (HA.cell0 p1.next)) fun p24 =>
  (Option.bind (HS.leave p21.2 (HS.next p4.2 :: [])) fun p25 =>
  some (p24, p25))) else
  none))))))))
theorem snd {D : Dp} {H : Hd} {k : Nat} {x0 : (Option HA)} {x1 : Int} {S : HS} (hD : DSound Try.prog base W0 D) (hH : HSound Try.prog base W0 β0 H)  {p : (Sl) × HS} (h : f D H k x0 x1 S = some p) : HCall Try.prog base W0 β0 11 [(.ptr x0), (.int .i64 x1)] S (fun v S1 => v = (Sl.hv p.1) ∧ S1 = p.2) := by
  unfold f at h
  refine HCall.of_run at_.at_ body ?_
  show HRun Try.prog base W0 β0 11 none [.code c0] ⟨[(.ptr x0), (.int .i64 x1), .tup [], .tup [], .tup [], .tup [], .tup [], .tup [], .tup [], .tup [], .tup [], .tup [], .tup [], .tup [], .tup [], .tup [], .tup [], .tup [], .tup [], .tup []], []⟩ S _
  refine q_seq e0 ?_
  refine q_region e1 rfl ?_
  obtain ⟨p1, hp1, h⟩ := leto h
  refine q_op (dst := some 2) rfl (fun _ ho => ok_box_e ho (.tmp rfl) (Nat.zero_lt_succ _) rfl hp1) ?_
  refine q_op (dst := some 4) rfl (fun _ ho => ok_assign ho (.const fun _ => .slNil none)) ?_
  refine hr_region_end ?_
  try dsimp only [HAct.put, List.set_cons_zero, List.set_cons_succ]
  refine q_seq e2 ?_
  refine q_region e3 rfl ?_
  obtain ⟨p2, hp2, h⟩ := leto h
  refine q_op (dst := some 5) rfl (fun _ ho => ok_alloc_e ho zi34 zr34 (by decide) rfl hp2) ?_
  refine hr_region_end ?_
  try dsimp only [HAct.put, List.set_cons_zero, List.set_cons_succ]
  refine q_seq e4 ?_
  refine q_seq e5 ?_
  refine q_region e6 rfl ?_
  obtain ⟨p3, hp3, h⟩ := bindo h
  refine q_op (dst := some 7) rfl (fun _ ho => ok_load_s ho sc25 (.tmp rfl) rfl (ldP_out hp3)) ?_
  refine q_op (dst := some 8) rfl (fun _ ho => ok_move ho (.tmp rfl)) ?_
  obtain ⟨p4, hp4, h⟩ := bindo h
  refine q_call (dst := some 9) rfl (.func _) (.cons (.tmp rfl) (.cons (.tmp rfl) Evs.nil)) (HInv.static timer_Table_string_Due.at_ timer_Table_string_Due.body (timer_Table_string_Due.snd  hp4)) ?_
  rintro _ _ ⟨rfl, rfl⟩
  refine hr_region_end ?_
  try dsimp only [HAct.put, List.set_cons_zero, List.set_cons_succ]
  refine q_block e7 ?_
  obtain ⟨p20, hp20, h⟩ := bindo h
  obtain ⟨p21, hp21, h⟩ := bindo h
  obtain ⟨n22, hn22, h⟩ := bindo h
  refine q_range (D := D) (H := H) e8 (.tmp rfl) hD hH hp20 hp21 ?_ ?_
  · intro β1 hle hLA vs T u T' hr
    obtain ⟨u19, hu19, hr⟩ := bindo hr
    obtain ⟨ar16, har16, hr⟩ := bindo hr
    obtain ⟨p17, hp17, hr⟩ := bindo hr
    obtain ⟨p18, hp18, hr⟩ := bindo hr
    rw [args2_out har16]
    refine q_yield2 hLA hu19 rfl rfl ?_
    rw [dS_out hp17, dI_out hp18]
    simp only [HAct.params, List.set_cons_zero, List.set_cons_succ]
    exact J0_snd hD (hH.up hle) hr
  · rcases ifc h with ⟨hc23, h⟩ | ⟨hc23, h⟩
    · rw [pcode0 hn22 hc23]
      simp only [jumped_none, jumped_some]
      refine hr_inBlock ?_
      refine q_seq e14 ?_
      refine q_region e15 rfl ?_
      obtain ⟨p24, hp24, h⟩ := bindo h
      refine q_op (dst := some 19) rfl (fun _ ho => ok_load_s ho sc34 (.tmp rfl) rfl (ldSl_out hp24)) ?_
      refine q_op (dst := some 4) rfl (fun _ ho => ok_assign ho (.tmp rfl)) ?_
      refine hr_region_end ?_
      try dsimp only [HAct.put, List.set_cons_zero, List.set_cons_succ]
      obtain ⟨p25, hp25, h⟩ := bindo h
      cases h
      exact q_ret e16 at_.at_ hp25 (res1 rfl rfl) ⟨rfl, rfl⟩
    · cases h
end
end timer_Table_string_Take
namespace timer_Table_string_Len
abbrev id : Nat := 17
theorem at_ : FnAt Try.prog 17 Try.f17 := ⟨Try.func17, by kernel_rfl⟩
noncomputable def c0 : Code := (Try.f17.body).getD .skip
noncomputable def c1 : Code := match c0 with | .seq x _ => x | _ => .skip
noncomputable def c2 : Code := match c0 with | .seq _ x => x | _ => .skip
noncomputable def c3 : Code := match c2 with | .seq x _ => x | _ => .skip
noncomputable def c4 : Code := match c3 with | .seq x _ => x | _ => .skip
noncomputable def c5 : Code := match c3 with | .seq _ x => x | _ => .skip
noncomputable def c6 : Code := match c5 with | .cond _ x _ => x | _ => .skip
noncomputable def c7 : Code := match c6 with | .seq x _ => x | _ => .skip
noncomputable def c8 : Code := match c6 with | .seq _ x => x | _ => .skip
noncomputable def c9 : Code := match c5 with | .cond _ _ x => x | _ => .skip
noncomputable def c10 : Code := match c2 with | .seq _ x => x | _ => .skip
noncomputable def c11 : Code := match c10 with | .seq x _ => x | _ => .skip
noncomputable def c12 : Code := match c10 with | .seq _ x => x | _ => .skip
theorem e0 : c0 = .seq c1 c2 := by kernel_rfl
noncomputable def r1 : Array Oper := match c1 with | .region _ x _ => x | _ => #[]
theorem e1 : c1 = .region 0 r1 false := by kernel_rfl
theorem e2 : c2 = .seq c3 c10 := by kernel_rfl
theorem e3 : c3 = .seq c4 c5 := by kernel_rfl
noncomputable def r4 : Array Oper := match c4 with | .region _ x _ => x | _ => #[]
theorem e4 : c4 = .region 1 r4 false := by kernel_rfl
theorem e5 : c5 = .cond (.tmp 4) c6 c9 := by kernel_rfl
theorem e6 : c6 = .seq c7 c8 := by kernel_rfl
noncomputable def r7 : Array Oper := match c7 with | .region _ x _ => x | _ => #[]
theorem e7 : c7 = .region 2 r7 false := by kernel_rfl
theorem e8 : c8 = .ret := by kernel_rfl
theorem e9 : c9 = .skip := by kernel_rfl
theorem e10 : c10 = .seq c11 c12 := by kernel_rfl
noncomputable def r11 : Array Oper := match c11 with | .region _ x _ => x | _ => #[]
theorem e11 : c11 = .region 3 r11 false := by kernel_rfl
theorem e12 : c12 = .ret := by kernel_rfl
theorem body : Try.f17.body = some c0 := by kernel_rfl
section
variable {base : Nat} {W0 : World} {β0 : Bt}
def f (x0 : (Option HA)) (S : HS) : Option ((Int) × HS) :=
  (if (Option.isNone x0) = true then
  some (0, S) else
  (Option.bind (x0) fun p2 =>
  (Option.bind (HS.ldSl S (HA.fld p2 0)) fun p3 =>
  some ((Sl.len p3 : Int), S))))
theorem snd {x0 : (Option HA)} {S : HS}  {p : (Int) × HS} (h : f x0 S = some p) : HCall Try.prog base W0 β0 17 [(.ptr x0)] S (fun v S1 => v = (.int .i64 p.1) ∧ S1 = p.2) := by
  unfold f at h
  refine HCall.of_run at_.at_ body ?_
  show HRun Try.prog base W0 β0 17 none [.code c0] ⟨[(.ptr x0), .tup [], .tup [], .tup [], .tup [], .tup [], .tup [], .tup [], .tup [], .tup []], []⟩ S _
  refine q_seq e0 ?_
  refine q_region e1 rfl ?_
  refine q_op (dst := some 2) rfl (fun _ ho => ok_assign ho (.int _ _)) ?_
  refine hr_region_end ?_
  try dsimp only [HAct.put, List.set_cons_zero, List.set_cons_succ]
  refine q_seq e2 ?_
  refine q_seq e3 ?_
  refine q_region e4 rfl ?_
  refine q_op (dst := some 3) rfl (fun _ ho => ok_move ho (.tmp rfl)) ?_
  refine q_op (dst := some 4) rfl (fun _ ho => ok_nil_ptr ho tu25 (.tmp rfl) (.inl ⟨rfl, rfl⟩)) ?_
  refine hr_region_end ?_
  try dsimp only [HAct.put, List.set_cons_zero, List.set_cons_succ]
  rcases ifc h with ⟨hc1, h⟩ | ⟨hc1, h⟩
  · refine q_cond_t e5 (.tmp rfl) hc1 ?_
    refine q_seq e6 ?_
    refine q_region e7 rfl ?_
    refine q_op (dst := some 2) rfl (fun _ ho => ok_assign ho (.int _ _)) ?_
    refine hr_region_end ?_
    try dsimp only [HAct.put, List.set_cons_zero, List.set_cons_succ]
    cases h
    exact q_ret e8 at_.at_ rfl (res1 rfl rfl) ⟨rfl, rfl⟩
  · refine q_cond_f e5 (.tmp rfl) (bfalse hc1) ?_
    refine q_skipc e9 ?_
    refine q_seq e10 ?_
    refine q_region e11 rfl ?_
    refine q_op (dst := some 5) rfl (fun _ ho => ok_move ho (.tmp rfl)) ?_
    obtain ⟨p2, hp2, h⟩ := bindo h
    refine q_op (dst := some 6) rfl (fun _ ho => ok_nilCheck_p ho (.tmp rfl) hp2) ?_
    refine q_op (dst := some 7) rfl (fun _ ho => ok_fieldAddr_s ho fi60_0 (by decide) (.tmp rfl) rfl) ?_
    obtain ⟨p3, hp3, h⟩ := bindo h
    refine q_op (dst := some 8) rfl (fun _ ho => ok_load_s ho sc58 (.tmp rfl) rfl (ldSl_out hp3)) ?_
    try dsimp only [HAct.put, List.set_cons_zero, List.set_cons_succ]
    refine q_op (dst := some 9) rfl (fun _ ho => ok_len_sl (q := Sl.a p3) (n := Sl.len p3) (z := Sl.cap p3) ho rfl tu58 (.tmp rfl)) ?_
    refine q_op (dst := some 2) rfl (fun _ ho => ok_assign ho (.tmp rfl)) ?_
    refine hr_region_end ?_
    try dsimp only [HAct.put, List.set_cons_zero, List.set_cons_succ]
    cases h
    exact q_ret e12 at_.at_ rfl (res1 rfl rfl) ⟨rfl, rfl⟩
end
end timer_Table_string_Len
namespace rollcalllaw09_awake
abbrev id : Nat := 6
theorem at_ : FnAt Try.prog 6 Try.f6 := ⟨Try.func6, by kernel_rfl⟩
noncomputable def c0 : Code := (Try.f6.body).getD .skip
noncomputable def c1 : Code := match c0 with | .seq x _ => x | _ => .skip
noncomputable def c2 : Code := match c0 with | .seq _ x => x | _ => .skip
noncomputable def c3 : Code := match c2 with | .seq x _ => x | _ => .skip
noncomputable def c4 : Code := match c2 with | .seq _ x => x | _ => .skip
noncomputable def c5 : Code := match c4 with | .seq x _ => x | _ => .skip
noncomputable def c6 : Code := match c4 with | .seq _ x => x | _ => .skip
noncomputable def c7 : Code := match c6 with | .seq x _ => x | _ => .skip
noncomputable def c8 : Code := match c6 with | .seq _ x => x | _ => .skip
noncomputable def c9 : Code := match c8 with | .seq x _ => x | _ => .skip
noncomputable def c10 : Code := match c8 with | .seq _ x => x | _ => .skip
noncomputable def c11 : Code := match c10 with | .seq x _ => x | _ => .skip
noncomputable def c12 : Code := match c10 with | .seq _ x => x | _ => .skip
noncomputable def c13 : Code := match c12 with | .seq x _ => x | _ => .skip
noncomputable def c14 : Code := match c12 with | .seq _ x => x | _ => .skip
theorem e0 : c0 = .seq c1 c2 := by kernel_rfl
noncomputable def r1 : Array Oper := match c1 with | .region _ x _ => x | _ => #[]
theorem e1 : c1 = .region 0 r1 false := by kernel_rfl
theorem e2 : c2 = .seq c3 c4 := by kernel_rfl
noncomputable def r3 : Array Oper := match c3 with | .region _ x _ => x | _ => #[]
theorem e3 : c3 = .region 1 r3 false := by kernel_rfl
theorem e4 : c4 = .seq c5 c6 := by kernel_rfl
noncomputable def r5 : Array Oper := match c5 with | .region _ x _ => x | _ => #[]
theorem e5 : c5 = .region 2 r5 false := by kernel_rfl
theorem e6 : c6 = .seq c7 c8 := by kernel_rfl
noncomputable def r7 : Array Oper := match c7 with | .region _ x _ => x | _ => #[]
theorem e7 : c7 = .region 3 r7 false := by kernel_rfl
theorem e8 : c8 = .seq c9 c10 := by kernel_rfl
noncomputable def r9 : Array Oper := match c9 with | .region _ x _ => x | _ => #[]
theorem e9 : c9 = .region 4 r9 false := by kernel_rfl
theorem e10 : c10 = .seq c11 c12 := by kernel_rfl
noncomputable def r11 : Array Oper := match c11 with | .region _ x _ => x | _ => #[]
theorem e11 : c11 = .region 5 r11 false := by kernel_rfl
theorem e12 : c12 = .seq c13 c14 := by kernel_rfl
noncomputable def r13 : Array Oper := match c13 with | .region _ x _ => x | _ => #[]
theorem e13 : c13 = .region 6 r13 false := by kernel_rfl
theorem e14 : c14 = .ret := by kernel_rfl
theorem body : Try.f6.body = some c0 := by kernel_rfl
section
variable {base : Nat} {W0 : World} {β0 : Bt}
def J3 (D : Dp) (H : Hd) (k : Nat) (y37 : Bool) (S : HS) : Option ((Bool) × HS) :=
  some (y37, S)
theorem J3_snd {D : Dp} {H : Hd} {k : Nat} (hD : DSound Try.prog base W0 D) (hH : HSound Try.prog base W0 β0 H)  {y37 : Bool} {S : HS} {p : (Bool) × HS} {g0 g1 g2 g3 g4 g5 g6 g7 g8 g9 g10 g11 g12 g13 g14 g15 g16 g17 g18 g19 g20 g21 g22 g23 g24 g25 g26 g27 g28 g29 g30 g31 g32 g33 g34 g35 g36 : HV} (h : J3 D H k y37 S = some p) : HRun Try.prog base W0 β0 6 none [.inRegion r13 [26], .code c14] ⟨[g0, g1, g2, g3, g4, g5, g6, g7, g8, g9, g10, g11, g12, g13, g14, g15, g16, g17, g18, g19, g20, g21, g22, g23, g24, g25, g26, g27, g28, g29, g30, g31, g32, g33, g34, g35, g36, (.bool y37)], []⟩ S (fun v S1 => v = (.bool p.1) ∧ S1 = p.2) := by
  unfold J3 at h
  refine q_op (dst := some 0) rfl (fun _ ho => ok_assign ho (.tmp rfl)) ?_
  refine hr_region_end ?_
  try dsimp only [HAct.put, List.set_cons_zero, List.set_cons_succ]
  cases h
  exact q_ret e14 at_.at_ rfl (res1 rfl rfl) ⟨rfl, rfl⟩
def J2 (D : Dp) (H : Hd) (k : Nat) (y1 : (Option HA)) (y32 : Bool) (S : HS) : Option ((Bool) × HS) :=
  (if y32 = true then
  (Option.bind (timer_Table_string_Len.f y1 S) fun p16 =>
  J3 D H k (decide (p16.1 = 0)) p16.2) else
  J3 D H k false S)
theorem J2_snd {D : Dp} {H : Hd} {k : Nat} (hD : DSound Try.prog base W0 D) (hH : HSound Try.prog base W0 β0 H)  {y1 : (Option HA)} {y32 : Bool} {S : HS} {p : (Bool) × HS} {g0 g2 g3 g4 g5 g6 g7 g8 g9 g10 g11 g12 g13 g14 g15 g16 g17 g18 g19 g20 g21 g22 g23 g24 g25 g26 g27 g28 g29 g30 g31 g33 g34 g35 g36 g37 : HV} (h : J2 D H k y1 y32 S = some p) : HRun Try.prog base W0 β0 6 none [.inRegion r13 [21, 22, 23, 24, 25, 26], .code c14] ⟨[g0, (.ptr y1), g2, g3, g4, g5, g6, g7, g8, g9, g10, g11, g12, g13, g14, g15, g16, g17, g18, g19, g20, g21, g22, g23, g24, g25, g26, g27, g28, g29, g30, g31, (.bool y32), g33, g34, g35, g36, g37], []⟩ S (fun v S1 => v = (.bool p.1) ∧ S1 = p.2) := by
  unfold J2 at h
  refine q_op (dst := some 33) rfl (fun _ ho => ok_move ho (.tmp rfl)) ?_
  rcases ifc h with ⟨hc15, h⟩ | ⟨hc15, h⟩
  · refine q_op_g (t := 33) (dst := some 34) rfl rfl rfl hc15 (fun _ ho => ok_move ho (.tmp rfl)) ?_
    obtain ⟨p16, hp16, h⟩ := bindo h
    refine q_call_g (t := 33) (dst := some 35) rfl rfl rfl hc15 (.func _) (.cons (.tmp rfl) Evs.nil) (HInv.static timer_Table_string_Len.at_ timer_Table_string_Len.body (timer_Table_string_Len.snd  hp16)) ?_
    rintro _ _ ⟨rfl, rfl⟩
    try dsimp only [HAct.put, List.set_cons_zero, List.set_cons_succ]
    refine q_op_g (t := 33) (dst := some 36) rfl rfl rfl hc15 (fun _ ho => ok_ibin ho (.tmp rfl) (.int _ _) rfl) ?_
    refine q_op (dst := some 37) rfl (fun _ ho => ok_pick_tt ho (.tmp rfl) hc15 (.tmp rfl)) ?_
    try dsimp only [HAct.put, List.set_cons_zero, List.set_cons_succ]
    exact J3_snd hD hH h
  · refine q_skip (dst := some 34) (t := 33) rfl rfl rfl (bfalse hc15) ?_
    refine q_skip (dst := some 35) (t := 33) rfl rfl rfl (bfalse hc15) ?_
    try dsimp only [HAct.put, List.set_cons_zero, List.set_cons_succ]
    refine q_skip (dst := some 36) (t := 33) rfl rfl rfl (bfalse hc15) ?_
    refine q_op (dst := some 37) rfl (fun _ ho => ok_pick_ff ho (.tmp rfl) (bfalse hc15) (.bool _)) ?_
    try dsimp only [HAct.put, List.set_cons_zero, List.set_cons_succ]
    exact J3_snd hD hH h
def J1 (D : Dp) (H : Hd) (k : Nat) (y1 : (Option HA)) (y2 : Sl) (y26 : Bool) (S : HS) : Option ((Bool) × HS) :=
  (if y26 = true then
  (Option.bind (HS.idx S y2 2 1) fun p13 =>
  (Option.bind (HS.ldS S p13) fun p14 =>
  J2 D H k y1 (decide (p14 = ([98] : List UInt8))) S)) else
  J2 D H k y1 false S)
theorem J1_snd {D : Dp} {H : Hd} {k : Nat} (hD : DSound Try.prog base W0 D) (hH : HSound Try.prog base W0 β0 H)  {y1 : (Option HA)} {y2 : Sl} {y26 : Bool} {S : HS} {p : (Bool) × HS} {g0 g3 g4 g5 g6 g7 g8 g9 g10 g11 g12 g13 g14 g15 g16 g17 g18 g19 g20 g21 g22 g23 g24 g25 g27 g28 g29 g30 g31 g32 g33 g34 g35 g36 g37 : HV} (h : J1 D H k y1 y2 y26 S = some p) : HRun Try.prog base W0 β0 6 none [.inRegion r13 [15, 16, 17, 18, 19, 20, 21, 22, 23, 24, 25, 26], .code c14] ⟨[g0, (.ptr y1), (Sl.hv y2), g3, g4, g5, g6, g7, g8, g9, g10, g11, g12, g13, g14, g15, g16, g17, g18, g19, g20, g21, g22, g23, g24, g25, (.bool y26), g27, g28, g29, g30, g31, g32, g33, g34, g35, g36, g37], []⟩ S (fun v S1 => v = (.bool p.1) ∧ S1 = p.2) := by
  unfold J1 at h
  refine q_op (dst := some 27) rfl (fun _ ho => ok_move ho (.tmp rfl)) ?_
  try dsimp only [HAct.put, List.set_cons_zero, List.set_cons_succ]
  rcases ifc h with ⟨hc12, h⟩ | ⟨hc12, h⟩
  · refine q_op_g (t := 27) (dst := some 28) rfl rfl rfl hc12 (fun _ ho => ok_move ho (.tmp rfl)) ?_
    obtain ⟨p13, hp13, h⟩ := bindo h
    refine q_op_g (t := 27) (dst := some 29) rfl rfl rfl hc12 (fun _ ho => ok_indexAddr (s := y2) ho tu34 sz9 (.tmp rfl) (.int _ _) hp13) ?_
    obtain ⟨p14, hp14, h⟩ := bindo h
    refine q_op_g (t := 27) (dst := some 30) rfl rfl rfl hc12 (fun _ ho => ok_load_s ho sc9 (.tmp rfl) rfl (ldS_out hp14)) ?_
    refine q_op_g (t := 27) (dst := some 31) rfl rfl rfl hc12 (fun _ ho => ok_sbin ho (.tmp rfl) (.str _) rfl) ?_
    try dsimp only [HAct.put, List.set_cons_zero, List.set_cons_succ]
    refine q_op (dst := some 32) rfl (fun _ ho => ok_pick_tt ho (.tmp rfl) hc12 (.tmp rfl)) ?_
    try dsimp only [HAct.put, List.set_cons_zero, List.set_cons_succ]
    exact J2_snd hD hH h
  · refine q_skip (dst := some 28) (t := 27) rfl rfl rfl (bfalse hc12) ?_
    refine q_skip (dst := some 29) (t := 27) rfl rfl rfl (bfalse hc12) ?_
    refine q_skip (dst := some 30) (t := 27) rfl rfl rfl (bfalse hc12) ?_
    refine q_skip (dst := some 31) (t := 27) rfl rfl rfl (bfalse hc12) ?_
    try dsimp only [HAct.put, List.set_cons_zero, List.set_cons_succ]
    refine q_op (dst := some 32) rfl (fun _ ho => ok_pick_ff ho (.tmp rfl) (bfalse hc12) (.bool _)) ?_
    try dsimp only [HAct.put, List.set_cons_zero, List.set_cons_succ]
    exact J2_snd hD hH h
def J0 (D : Dp) (H : Hd) (k : Nat) (y1 : (Option HA)) (y2 : Sl) (y20 : Bool) (S : HS) : Option ((Bool) × HS) :=
  (if y20 = true then
  (Option.bind (HS.idx S y2 1 1) fun p10 =>
  (Option.bind (HS.ldS S p10) fun p11 =>
  J1 D H k y1 y2 (decide (p11 = ([97] : List UInt8))) S)) else
  J1 D H k y1 y2 false S)
theorem J0_snd {D : Dp} {H : Hd} {k : Nat} (hD : DSound Try.prog base W0 D) (hH : HSound Try.prog base W0 β0 H)  {y1 : (Option HA)} {y2 : Sl} {y20 : Bool} {S : HS} {p : (Bool) × HS} {g0 g3 g4 g5 g6 g7 g8 g9 g10 g11 g12 g13 g14 g15 g16 g17 g18 g19 g21 g22 g23 g24 g25 g26 g27 g28 g29 g30 g31 g32 g33 g34 g35 g36 g37 : HV} (h : J0 D H k y1 y2 y20 S = some p) : HRun Try.prog base W0 β0 6 none [.inRegion r13 [9, 10, 11, 12, 13, 14, 15, 16, 17, 18, 19, 20, 21, 22, 23, 24, 25, 26], .code c14] ⟨[g0, (.ptr y1), (Sl.hv y2), g3, g4, g5, g6, g7, g8, g9, g10, g11, g12, g13, g14, g15, g16, g17, g18, g19, (.bool y20), g21, g22, g23, g24, g25, g26, g27, g28, g29, g30, g31, g32, g33, g34, g35, g36, g37], []⟩ S (fun v S1 => v = (.bool p.1) ∧ S1 = p.2) := by
  unfold J0 at h
  refine q_op (dst := some 21) rfl (fun _ ho => ok_move ho (.tmp rfl)) ?_
  rcases ifc h with ⟨hc9, h⟩ | ⟨hc9, h⟩
  · refine q_op_g (t := 21) (dst := some 22) rfl rfl rfl hc9 (fun _ ho => ok_move ho (.tmp rfl)) ?_
    obtain ⟨p10, hp10, h⟩ := bindo h
    refine q_op_g (t := 21) (dst := some 23) rfl rfl rfl hc9 (fun _ ho => ok_indexAddr (s := y2) ho tu34 sz9 (.tmp rfl) (.int _ _) hp10) ?_
    try dsimp only [HAct.put, List.set_cons_zero, List.set_cons_succ]
    obtain ⟨p11, hp11, h⟩ := bindo h
    refine q_op_g (t := 21) (dst := some 24) rfl rfl rfl hc9 (fun _ ho => ok_load_s ho sc9 (.tmp rfl) rfl (ldS_out hp11)) ?_
    refine q_op_g (t := 21) (dst := some 25) rfl rfl rfl hc9 (fun _ ho => ok_sbin ho (.tmp rfl) (.str _) rfl) ?_
    refine q_op (dst := some 26) rfl (fun _ ho => ok_pick_tt ho (.tmp rfl) hc9 (.tmp rfl)) ?_
    try dsimp only [HAct.put, List.set_cons_zero, List.set_cons_succ]
    exact J1_snd hD hH h
  · refine q_skip (dst := some 22) (t := 21) rfl rfl rfl (bfalse hc9) ?_
    refine q_skip (dst := some 23) (t := 21) rfl rfl rfl (bfalse hc9) ?_
    try dsimp only [HAct.put, List.set_cons_zero, List.set_cons_succ]
    refine q_skip (dst := some 24) (t := 21) rfl rfl rfl (bfalse hc9) ?_
    refine q_skip (dst := some 25) (t := 21) rfl rfl rfl (bfalse hc9) ?_
    refine q_op (dst := some 26) rfl (fun _ ho => ok_pick_ff ho (.tmp rfl) (bfalse hc9) (.bool _)) ?_
    try dsimp only [HAct.put, List.set_cons_zero, List.set_cons_succ]
    exact J1_snd hD hH h
def f (D : Dp) (H : Hd) (k : Nat) (S : HS) : Option ((Bool) × HS) :=
  (Option.bind (timer_New_string.f S) fun p1 =>
  (Option.bind (timer_Table_string_Set.f D H k p1.1 ([98] : List UInt8) 5 p1.2) fun p2 =>
  (Option.bind (timer_Table_string_Set.f D H k p1.1 ([97] : List UInt8) 5 p2.2) fun p3 =>
  (Option.bind (timer_Table_string_Set.f D H k p1.1 ([99] : List UInt8) 3 p3.2) fun p4 =>
  (Option.bind (timer_Table_string_Take.f D H k p1.1 5 p4.2) fun p5 =>
  (if (Sl.len p5.1 : Int) = 3 then
  (Option.bind (HS.idx p5.2 p5.1 0 1) fun p7 =>
  (Option.bind (HS.ldS p5.2 p7) fun p8 =>
  J0 D H k p1.1 p5.1 (decide (p8 = ([99] : List UInt8))) p5.2)) else
  J0 D H k p1.1 p5.1 false p5.2))))))
theorem snd {D : Dp} {H : Hd} {k : Nat} {S : HS} (hD : DSound Try.prog base W0 D) (hH : HSound Try.prog base W0 β0 H)  {p : (Bool) × HS} (h : f D H k S = some p) : HCall Try.prog base W0 β0 6 [] S (fun v S1 => v = (.bool p.1) ∧ S1 = p.2) := by
  unfold f at h
  refine HCall.of_run at_.at_ body ?_
  show HRun Try.prog base W0 β0 6 none [.code c0] ⟨[.tup [], .tup [], .tup [], .tup [], .tup [], .tup [], .tup [], .tup [], .tup [], .tup [], .tup [], .tup [], .tup [], .tup [], .tup [], .tup [], .tup [], .tup [], .tup [], .tup [], .tup [], .tup [], .tup [], .tup [], .tup [], .tup [], .tup [], .tup [], .tup [], .tup [], .tup [], .tup [], .tup [], .tup [], .tup [], .tup [], .tup [], .tup []], []⟩ S _
  refine q_seq e0 ?_
  refine q_region e1 rfl ?_
  refine q_op (dst := some 0) rfl (fun _ ho => ok_assign ho (.bool _)) ?_
  refine hr_region_end ?_
  try dsimp only [HAct.put, List.set_cons_zero, List.set_cons_succ]
  refine q_seq e2 ?_
  refine q_region e3 rfl ?_
  obtain ⟨p1, hp1, h⟩ := bindo h
  refine q_call (dst := some 3) rfl (.func _) Evs.nil (HInv.static timer_New_string.at_ timer_New_string.body (timer_New_string.snd  hp1)) ?_
  rintro _ _ ⟨rfl, rfl⟩
  refine q_op (dst := some 1) rfl (fun _ ho => ok_assign ho (.tmp rfl)) ?_
  refine hr_region_end ?_
  try dsimp only [HAct.put, List.set_cons_zero, List.set_cons_succ]
  refine q_seq e4 ?_
  refine q_region e5 rfl ?_
  refine q_op (dst := some 4) rfl (fun _ ho => ok_move ho (.tmp rfl)) ?_
  obtain ⟨p2, hp2, h⟩ := bindo h
  refine q_call (dst := some 5) rfl (.func _) (.cons (.tmp rfl) (.cons (.str _) (.cons (.int _ _) Evs.nil))) (HInv.static timer_Table_string_Set.at_ timer_Table_string_Set.body (timer_Table_string_Set.snd hD hH hp2)) ?_
  rintro _ _ ⟨rfl, rfl⟩
  refine hr_region_end ?_
  try dsimp only [HAct.put, List.set_cons_zero, List.set_cons_succ]
  refine q_seq e6 ?_
  refine q_region e7 rfl ?_
  refine q_op (dst := some 6) rfl (fun _ ho => ok_move ho (.tmp rfl)) ?_
  obtain ⟨p3, hp3, h⟩ := bindo h
  refine q_call (dst := some 7) rfl (.func _) (.cons (.tmp rfl) (.cons (.str _) (.cons (.int _ _) Evs.nil))) (HInv.static timer_Table_string_Set.at_ timer_Table_string_Set.body (timer_Table_string_Set.snd hD hH hp3)) ?_
  rintro _ _ ⟨rfl, rfl⟩
  refine hr_region_end ?_
  try dsimp only [HAct.put, List.set_cons_zero, List.set_cons_succ]
  refine q_seq e8 ?_
  refine q_region e9 rfl ?_
  refine q_op (dst := some 8) rfl (fun _ ho => ok_move ho (.tmp rfl)) ?_
  obtain ⟨p4, hp4, h⟩ := bindo h
  refine q_call (dst := some 9) rfl (.func _) (.cons (.tmp rfl) (.cons (.str _) (.cons (.int _ _) Evs.nil))) (HInv.static timer_Table_string_Set.at_ timer_Table_string_Set.body (timer_Table_string_Set.snd hD hH hp4)) ?_
  rintro _ _ ⟨rfl, rfl⟩
  refine hr_region_end ?_
  try dsimp only [HAct.put, List.set_cons_zero, List.set_cons_succ]
  refine q_seq e10 ?_
  refine q_region e11 rfl ?_
  refine q_op (dst := some 10) rfl (fun _ ho => ok_move ho (.tmp rfl)) ?_
  obtain ⟨p5, hp5, h⟩ := bindo h
  refine q_call (dst := some 11) rfl (.func _) (.cons (.tmp rfl) (.cons (.int _ _) Evs.nil)) (HInv.static timer_Table_string_Take.at_ timer_Table_string_Take.body (timer_Table_string_Take.snd hD hH hp5)) ?_
  rintro _ _ ⟨rfl, rfl⟩
  refine q_op (dst := some 2) rfl (fun _ ho => ok_assign ho (.tmp rfl)) ?_
  refine hr_region_end ?_
  try dsimp only [HAct.put, List.set_cons_zero, List.set_cons_succ]
  refine q_seq e12 ?_
  refine q_region e13 rfl ?_
  refine q_op (dst := some 12) rfl (fun _ ho => ok_move ho (.tmp rfl)) ?_
  refine q_op (dst := some 13) rfl (fun _ ho => ok_len_sl (q := Sl.a p5.1) (n := Sl.len p5.1) (z := Sl.cap p5.1) ho rfl tu34 (.tmp rfl)) ?_
  refine q_op (dst := some 14) rfl (fun _ ho => ok_ibin ho (.tmp rfl) (.int _ _) rfl) ?_
  refine q_op (dst := some 15) rfl (fun _ ho => ok_move ho (.tmp rfl)) ?_
  try dsimp only [HAct.put, List.set_cons_zero, List.set_cons_succ]
  rcases ifc h with ⟨hc6, h⟩ | ⟨hc6, h⟩
  · refine q_op_g (t := 15) (dst := some 16) rfl rfl rfl (decide_eq_true hc6) (fun _ ho => ok_move ho (.tmp rfl)) ?_
    obtain ⟨p7, hp7, h⟩ := bindo h
    refine q_op_g (t := 15) (dst := some 17) rfl rfl rfl (decide_eq_true hc6) (fun _ ho => ok_indexAddr (s := p5.1) ho tu34 sz9 (.tmp rfl) (.int _ _) hp7) ?_
    obtain ⟨p8, hp8, h⟩ := bindo h
    refine q_op_g (t := 15) (dst := some 18) rfl rfl rfl (decide_eq_true hc6) (fun _ ho => ok_load_s ho sc9 (.tmp rfl) rfl (ldS_out hp8)) ?_
    refine q_op_g (t := 15) (dst := some 19) rfl rfl rfl (decide_eq_true hc6) (fun _ ho => ok_sbin ho (.tmp rfl) (.str _) rfl) ?_
    try dsimp only [HAct.put, List.set_cons_zero, List.set_cons_succ]
    refine q_op (dst := some 20) rfl (fun _ ho => ok_pick_tt ho (.tmp rfl) (decide_eq_true hc6) (.tmp rfl)) ?_
    try dsimp only [HAct.put, List.set_cons_zero, List.set_cons_succ]
    exact J0_snd hD hH h
  · refine q_skip (dst := some 16) (t := 15) rfl rfl rfl (decide_eq_false hc6) ?_
    refine q_skip (dst := some 17) (t := 15) rfl rfl rfl (decide_eq_false hc6) ?_
    refine q_skip (dst := some 18) (t := 15) rfl rfl rfl (decide_eq_false hc6) ?_
    refine q_skip (dst := some 19) (t := 15) rfl rfl rfl (decide_eq_false hc6) ?_
    try dsimp only [HAct.put, List.set_cons_zero, List.set_cons_succ]
    refine q_op (dst := some 20) rfl (fun _ ho => ok_pick_ff ho (.tmp rfl) (decide_eq_false hc6) (.bool _)) ?_
    try dsimp only [HAct.put, List.set_cons_zero, List.set_cons_succ]
    exact J0_snd hD hH h
end
end rollcalllaw09_awake
namespace timer_Table_string_Next
abbrev id : Nat := 19
theorem at_ : FnAt Try.prog 19 Try.f19 := ⟨Try.func19, by kernel_rfl⟩
noncomputable def c0 : Code := (Try.f19.body).getD .skip
noncomputable def c1 : Code := match c0 with | .seq x _ => x | _ => .skip
noncomputable def c2 : Code := match c0 with | .seq _ x => x | _ => .skip
noncomputable def c3 : Code := match c2 with | .seq x _ => x | _ => .skip
noncomputable def c4 : Code := match c3 with | .seq x _ => x | _ => .skip
noncomputable def c5 : Code := match c3 with | .seq _ x => x | _ => .skip
noncomputable def c6 : Code := match c5 with | .cond _ x _ => x | _ => .skip
noncomputable def c7 : Code := match c6 with | .seq x _ => x | _ => .skip
noncomputable def c8 : Code := match c6 with | .seq _ x => x | _ => .skip
noncomputable def c9 : Code := match c8 with | .seq x _ => x | _ => .skip
noncomputable def c10 : Code := match c8 with | .seq _ x => x | _ => .skip
noncomputable def c11 : Code := match c5 with | .cond _ _ x => x | _ => .skip
noncomputable def c12 : Code := match c2 with | .seq _ x => x | _ => .skip
noncomputable def c13 : Code := match c12 with | .seq x _ => x | _ => .skip
noncomputable def c14 : Code := match c12 with | .seq _ x => x | _ => .skip
theorem e0 : c0 = .seq c1 c2 := by kernel_rfl
noncomputable def r1 : Array Oper := match c1 with | .region _ x _ => x | _ => #[]
theorem e1 : c1 = .region 0 r1 false := by kernel_rfl
theorem e2 : c2 = .seq c3 c12 := by kernel_rfl
theorem e3 : c3 = .seq c4 c5 := by kernel_rfl
noncomputable def r4 : Array Oper := match c4 with | .region _ x _ => x | _ => #[]
theorem e4 : c4 = .region 1 r4 false := by kernel_rfl
theorem e5 : c5 = .cond (.tmp 8) c6 c11 := by kernel_rfl
theorem e6 : c6 = .seq c7 c8 := by kernel_rfl
noncomputable def r7 : Array Oper := match c7 with | .region _ x _ => x | _ => #[]
theorem e7 : c7 = .region 2 r7 false := by kernel_rfl
theorem e8 : c8 = .seq c9 c10 := by kernel_rfl
noncomputable def r9 : Array Oper := match c9 with | .region _ x _ => x | _ => #[]
theorem e9 : c9 = .region 3 r9 false := by kernel_rfl
theorem e10 : c10 = .ret := by kernel_rfl
theorem e11 : c11 = .skip := by kernel_rfl
theorem e12 : c12 = .seq c13 c14 := by kernel_rfl
noncomputable def r13 : Array Oper := match c13 with | .region _ x _ => x | _ => #[]
theorem e13 : c13 = .region 4 r13 true := by kernel_rfl
theorem e14 : c14 = .ret := by kernel_rfl
theorem body : Try.f19.body = some c0 := by kernel_rfl
section
variable {base : Nat} {W0 : World} {β0 : Bt}
def f (x0 : (Option HA)) (S : HS) : Option (((List UInt8) × Int × Bool) × HS) :=
  (Option.bind (timer_Table_string_Len.f x0 S) fun p1 =>
  (if p1.1 = 0 then
  some ((([] : List UInt8), 0, false), p1.2) else
  (Option.bind (x0) fun p3 =>
  (Option.bind (HS.ldSl p1.2 (HA.fld p3 0)) fun p4 =>
  (Option.bind (HS.idx p1.2 p4 0 2) fun p5 =>
  (Option.bind (HS.ldS p1.2 (HA.fld p5 0)) fun p6 =>
  (Option.bind (x0) fun p7 =>
  (Option.bind (HS.ldSl p1.2 (HA.fld p7 0)) fun p8 =>
  (Option.bind (HS.idx p1.2 p8 0 2) fun p9 =>
  (Option.bind (HS.ldI p1.2 .i64 (HA.fld p9 1)) fun p10 =>
  some ((p6, p10, true), p1.2)))))))))))
theorem snd {x0 : (Option HA)} {S : HS}  {p : ((List UInt8) × Int × Bool) × HS} (h : f x0 S = some p) : HCall Try.prog base W0 β0 19 [(.ptr x0)] S (fun v S1 => v = (.tup [(.str p.1.1), (.int .i64 p.1.2.1), (.bool p.1.2.2)]) ∧ S1 = p.2) := by
  unfold f at h
  refine HCall.of_run at_.at_ body ?_
  show HRun Try.prog base W0 β0 19 none [.code c0] ⟨[(.ptr x0), .tup [], .tup [], .tup [], .tup [], .tup [], .tup [], .tup [], .tup [], .tup [], .tup [], .tup [], .tup [], .tup [], .tup [], .tup [], .tup [], .tup [], .tup [], .tup [], .tup [], .tup [], .tup [], .tup []], []⟩ S _
  refine q_seq e0 ?_
  refine q_region e1 rfl ?_
  refine q_op (dst := some 2) rfl (fun _ ho => ok_assign ho (.str _)) ?_
  refine q_op (dst := some 3) rfl (fun _ ho => ok_assign ho (.int _ _)) ?_
  refine q_op (dst := some 4) rfl (fun _ ho => ok_assign ho (.bool _)) ?_
  refine hr_region_end ?_
  try dsimp only [HAct.put, List.set_cons_zero, List.set_cons_succ]
  refine q_seq e2 ?_
  refine q_seq e3 ?_
  refine q_region e4 rfl ?_
  refine q_op (dst := some 6) rfl (fun _ ho => ok_move ho (.tmp rfl)) ?_
  obtain ⟨p1, hp1, h⟩ := bindo h
  refine q_call (dst := some 7) rfl (.func _) (.cons (.tmp rfl) Evs.nil) (HInv.static timer_Table_string_Len.at_ timer_Table_string_Len.body (timer_Table_string_Len.snd  hp1)) ?_
  rintro _ _ ⟨rfl, rfl⟩
  refine q_op (dst := some 8) rfl (fun _ ho => ok_ibin ho (.tmp rfl) (.int _ _) rfl) ?_
  refine hr_region_end ?_
  try dsimp only [HAct.put, List.set_cons_zero, List.set_cons_succ]
  rcases ifc h with ⟨hc2, h⟩ | ⟨hc2, h⟩
  · refine q_cond_t e5 (.tmp rfl) (decide_eq_true hc2) ?_
    refine q_seq e6 ?_
    refine q_region e7 rfl ?_
    refine q_op (dst := some 5) rfl (fun _ ho => ok_assign ho (.str _)) ?_
    refine hr_region_end ?_
    try dsimp only [HAct.put, List.set_cons_zero, List.set_cons_succ]
    refine q_seq e8 ?_
    refine q_region e9 rfl ?_
    refine q_op (dst := some 9) rfl (fun _ ho => ok_move ho (.tmp rfl)) ?_
    refine q_op (dst := some 2) rfl (fun _ ho => ok_assign ho (.tmp rfl)) ?_
    refine q_op (dst := some 3) rfl (fun _ ho => ok_assign ho (.int _ _)) ?_
    refine q_op (dst := some 4) rfl (fun _ ho => ok_assign ho (.bool _)) ?_
    refine hr_region_end ?_
    try dsimp only [HAct.put, List.set_cons_zero, List.set_cons_succ]
    cases h
    exact q_ret e10 at_.at_ rfl (res3 rfl rfl rfl rfl) ⟨rfl, rfl⟩
  · refine q_cond_f e5 (.tmp rfl) (decide_eq_false hc2) ?_
    refine q_skipc e11 ?_
    refine q_seq e12 ?_
    refine x_start (cls := [0, 0, 0, 1, 1, 0, 1, 0, 0, 0, 1, 1, 0, 1, 0, 0, 0]) (rk := [0, 1, 2, 3, 4, 5, 6, 8, 9, 10, 11, 12, 13, 14, 7, 15, 16]) e13 (by kernel_rfl) ?_
    refine x_go (f_op (dst := some 10) (ts := [0]) rfl (by intro _ _ h; cases h) (by kernel_rfl) (fun _ _ ho => ok_move ho (.tmp rfl))) rfl ?_
    obtain ⟨p3, hp3, h⟩ := bindo h
    refine x_go (f_op (dst := some 11) (ts := [10]) rfl (by intro _ _ h; cases h) (by kernel_rfl) (fun _ _ ho => ok_nilCheck_p ho (.tmp rfl) hp3)) rfl ?_
    refine x_go (f_op (dst := some 12) (ts := [11]) rfl (by intro _ _ h; cases h) (by kernel_rfl) (fun _ _ ho => ok_fieldAddr_s ho fi60_0 (by decide) (.tmp rfl) rfl)) rfl ?_
    obtain ⟨p4, hp4, h⟩ := bindo h
    refine x_go (r_op (dst := some 13) (ts := [12]) rfl (by intro _ _ h; cases h) (by kernel_rfl) (fun _ ho => ok_load_s ho sc58 (.tmp rfl) rfl (ldSl_out hp4))) rfl ?_
    try dsimp only [HAct.put, List.set_cons_zero, List.set_cons_succ]
    obtain ⟨p5, hp5, h⟩ := bindo h
    refine x_go (r_op (dst := some 14) (ts := [13]) rfl (by intro _ _ h; cases h) (by kernel_rfl) (fun _ ho => ok_indexAddr (s := p4) ho tu58 sz63 (.tmp rfl) (.int _ _) hp5)) rfl ?_
    refine x_go (f_op (dst := some 15) (ts := [14]) rfl (by intro _ _ h; cases h) (by kernel_rfl) (fun _ _ ho => ok_fieldAddr_s ho fi63_0 (by decide) (.tmp rfl) rfl)) rfl ?_
    obtain ⟨p6, hp6, h⟩ := bindo h
    refine x_go (r_op (dst := some 16) (ts := [15]) rfl (by intro _ _ h; cases h) (by kernel_rfl) (fun _ ho => ok_load_s ho sc9 (.tmp rfl) rfl (ldS_out hp6))) rfl ?_
    refine x_go (f_op (dst := some 17) (ts := [0]) rfl (by intro _ _ h; cases h) (by kernel_rfl) (fun _ _ ho => ok_move ho (.tmp rfl))) rfl ?_
    try dsimp only [HAct.put, List.set_cons_zero, List.set_cons_succ]
    obtain ⟨p7, hp7, h⟩ := bindo h
    refine x_go (f_op (dst := some 18) (ts := [17]) rfl (by intro _ _ h; cases h) (by kernel_rfl) (fun _ _ ho => ok_nilCheck_p ho (.tmp rfl) hp7)) rfl ?_
    refine x_go (f_op (dst := some 19) (ts := [18]) rfl (by intro _ _ h; cases h) (by kernel_rfl) (fun _ _ ho => ok_fieldAddr_s ho fi60_0 (by decide) (.tmp rfl) rfl)) rfl ?_
    obtain ⟨p8, hp8, h⟩ := bindo h
    refine x_go (r_op (dst := some 20) (ts := [19]) rfl (by intro _ _ h; cases h) (by kernel_rfl) (fun _ ho => ok_load_s ho sc58 (.tmp rfl) rfl (ldSl_out hp8))) rfl ?_
    obtain ⟨p9, hp9, h⟩ := bindo h
    refine x_go (r_op (dst := some 21) (ts := [20]) rfl (by intro _ _ h; cases h) (by kernel_rfl) (fun _ ho => ok_indexAddr (s := p8) ho tu58 sz63 (.tmp rfl) (.int _ _) hp9)) rfl ?_
    try dsimp only [HAct.put, List.set_cons_zero, List.set_cons_succ]
    refine x_go (f_op (dst := some 22) (ts := [21]) rfl (by intro _ _ h; cases h) (by kernel_rfl) (fun _ _ ho => ok_fieldAddr_s ho fi63_1 (by decide) (.tmp rfl) rfl)) rfl ?_
    obtain ⟨p10, hp10, h⟩ := bindo h
    refine x_go (r_op (dst := some 23) (ts := [22]) rfl (by intro _ _ h; cases h) (by kernel_rfl) (fun _ ho => ok_load_s ho sc3 (.tmp rfl) rfl (ldI_out hp10))) rfl ?_
    refine x_go (f_op (dst := some 2) (ts := [16]) rfl (by intro _ _ h; cases h) (by kernel_rfl) (fun _ _ ho => ok_assign ho (.tmp rfl))) rfl ?_
    refine x_go (f_op (dst := some 3) (ts := [23]) rfl (by intro _ _ h; cases h) (by kernel_rfl) (fun _ _ ho => ok_assign ho (.tmp rfl))) rfl ?_
    try dsimp only [HAct.put, List.set_cons_zero, List.set_cons_succ]
    refine x_go (f_op (dst := some 4) (ts := []) rfl (by intro _ _ h; cases h) (by kernel_rfl) (fun _ _ ho => ok_assign ho (.bool _))) rfl ?_
    refine x_rest rfl ?_
    refine hr_region_end ?_
    try dsimp only [HAct.put, List.set_cons_zero, List.set_cons_succ]
    cases h
    exact q_ret e14 at_.at_ rfl (res3 rfl rfl rfl rfl) ⟨rfl, rfl⟩
end
end timer_Table_string_Next
namespace rollcalllaw09_same
abbrev id : Nat := 18
theorem at_ : FnAt Try.prog 18 Try.f18 := ⟨Try.func18, by kernel_rfl⟩
noncomputable def c0 : Code := (Try.f18.body).getD .skip
noncomputable def c1 : Code := match c0 with | .seq x _ => x | _ => .skip
noncomputable def c2 : Code := match c0 with | .seq _ x => x | _ => .skip
noncomputable def c3 : Code := match c2 with | .seq x _ => x | _ => .skip
noncomputable def c4 : Code := match c2 with | .seq _ x => x | _ => .skip
noncomputable def c5 : Code := match c4 with | .seq x _ => x | _ => .skip
noncomputable def c6 : Code := match c4 with | .seq _ x => x | _ => .skip
noncomputable def c7 : Code := match c6 with | .seq x _ => x | _ => .skip
noncomputable def c8 : Code := match c6 with | .seq _ x => x | _ => .skip
noncomputable def c9 : Code := match c8 with | .seq x _ => x | _ => .skip
noncomputable def c10 : Code := match c9 with | .seq x _ => x | _ => .skip
noncomputable def c11 : Code := match c9 with | .seq _ x => x | _ => .skip
noncomputable def c12 : Code := match c11 with | .cond _ x _ => x | _ => .skip
noncomputable def c13 : Code := match c12 with | .seq x _ => x | _ => .skip
noncomputable def c14 : Code := match c12 with | .seq _ x => x | _ => .skip
noncomputable def c15 : Code := match c11 with | .cond _ _ x => x | _ => .skip
noncomputable def c16 : Code := match c8 with | .seq _ x => x | _ => .skip
noncomputable def c17 : Code := match c16 with | .seq x _ => x | _ => .skip
noncomputable def c18 : Code := match c17 with | .seq x _ => x | _ => .skip
noncomputable def c19 : Code := match c17 with | .seq _ x => x | _ => .skip
noncomputable def c20 : Code := match c19 with | .block _ x => x | _ => .skip
noncomputable def c21 : Code := match c20 with | .rangeFunc _ _ x _ => x | _ => .skip
noncomputable def c22 : Code := match c21 with | .seq x _ => x | _ => .skip
noncomputable def c23 : Code := match c21 with | .seq _ x => x | _ => .skip
noncomputable def c24 : Code := match c20 with | .rangeFunc _ _ _ x => x | _ => .skip
noncomputable def c25 : Code := match c24 with | .block _ x => x | _ => .skip
noncomputable def c26 : Code := match c25 with | .seq x _ => x | _ => .skip
noncomputable def c27 : Code := match c26 with | .seq x _ => x | _ => .skip
noncomputable def c28 : Code := match c26 with | .seq _ x => x | _ => .skip
noncomputable def c29 : Code := match c28 with | .cond _ x _ => x | _ => .skip
noncomputable def c30 : Code := match c29 with | .seq x _ => x | _ => .skip
noncomputable def c31 : Code := match c29 with | .seq _ x => x | _ => .skip
noncomputable def c32 : Code := match c28 with | .cond _ _ x => x | _ => .skip
noncomputable def c33 : Code := match c25 with | .seq _ x => x | _ => .skip
noncomputable def c34 : Code := match c33 with | .seq x _ => x | _ => .skip
noncomputable def c35 : Code := match c33 with | .seq _ x => x | _ => .skip
noncomputable def c36 : Code := match c16 with | .seq _ x => x | _ => .skip
noncomputable def c37 : Code := match c36 with | .seq x _ => x | _ => .skip
noncomputable def c38 : Code := match c36 with | .seq _ x => x | _ => .skip
theorem e0 : c0 = .seq c1 c2 := by kernel_rfl
noncomputable def r1 : Array Oper := match c1 with | .region _ x _ => x | _ => #[]
theorem e1 : c1 = .region 0 r1 false := by kernel_rfl
theorem e2 : c2 = .seq c3 c4 := by kernel_rfl
noncomputable def r3 : Array Oper := match c3 with | .region _ x _ => x | _ => #[]
theorem e3 : c3 = .region 1 r3 false := by kernel_rfl
theorem e4 : c4 = .seq c5 c6 := by kernel_rfl
noncomputable def r5 : Array Oper := match c5 with | .region _ x _ => x | _ => #[]
theorem e5 : c5 = .region 2 r5 false := by kernel_rfl
theorem e6 : c6 = .seq c7 c8 := by kernel_rfl
noncomputable def r7 : Array Oper := match c7 with | .region _ x _ => x | _ => #[]
theorem e7 : c7 = .region 3 r7 false := by kernel_rfl
theorem e8 : c8 = .seq c9 c16 := by kernel_rfl
theorem e9 : c9 = .seq c10 c11 := by kernel_rfl
noncomputable def r10 : Array Oper := match c10 with | .region _ x _ => x | _ => #[]
theorem e10 : c10 = .region 4 r10 false := by kernel_rfl
theorem e11 : c11 = .cond (.tmp 16) c12 c15 := by kernel_rfl
theorem e12 : c12 = .seq c13 c14 := by kernel_rfl
noncomputable def r13 : Array Oper := match c13 with | .region _ x _ => x | _ => #[]
theorem e13 : c13 = .region 5 r13 false := by kernel_rfl
theorem e14 : c14 = .ret := by kernel_rfl
theorem e15 : c15 = .skip := by kernel_rfl
theorem e16 : c16 = .seq c17 c36 := by kernel_rfl
theorem e17 : c17 = .seq c18 c19 := by kernel_rfl
noncomputable def r18 : Array Oper := match c18 with | .region _ x _ => x | _ => #[]
theorem e18 : c18 = .region 6 r18 false := by kernel_rfl
theorem e19 : c19 = .block 0 c20 := by kernel_rfl
theorem e20 : c20 = .rangeFunc (.tmp 17) #[18, 19] c21 c24 := by kernel_rfl
theorem e21 : c21 = .seq c22 c23 := by kernel_rfl
noncomputable def r22 : Array Oper := match c22 with | .region _ x _ => x | _ => #[]
theorem e22 : c22 = .region 7 r22 false := by kernel_rfl
noncomputable def r23 : Array Oper := match c23 with | .region _ x _ => x | _ => #[]
theorem e23 : c23 = .region 8 r23 false := by kernel_rfl
theorem e24 : c24 = .block 1 c25 := by kernel_rfl
theorem e25 : c25 = .seq c26 c33 := by kernel_rfl
theorem e26 : c26 = .seq c27 c28 := by kernel_rfl
noncomputable def r27 : Array Oper := match c27 with | .region _ x _ => x | _ => #[]
theorem e27 : c27 = .region 9 r27 false := by kernel_rfl
theorem e28 : c28 = .cond (.tmp 23) c29 c32 := by kernel_rfl
theorem e29 : c29 = .seq c30 c31 := by kernel_rfl
noncomputable def r30 : Array Oper := match c30 with | .region _ x _ => x | _ => #[]
theorem e30 : c30 = .region 10 r30 false := by kernel_rfl
theorem e31 : c31 = .ret := by kernel_rfl
theorem e32 : c32 = .skip := by kernel_rfl
theorem e33 : c33 = .seq c34 c35 := by kernel_rfl
noncomputable def r34 : Array Oper := match c34 with | .region _ x _ => x | _ => #[]
theorem e34 : c34 = .region 11 r34 false := by kernel_rfl
noncomputable def r35 : Array Oper := match c35 with | .region _ x _ => x | _ => #[]
theorem e35 : c35 = .region 12 r35 false := by kernel_rfl
theorem e36 : c36 = .seq c37 c38 := by kernel_rfl
noncomputable def r37 : Array Oper := match c37 with | .region _ x _ => x | _ => #[]
theorem e37 : c37 = .region 13 r37 false := by kernel_rfl
theorem e38 : c38 = .ret := by kernel_rfl
theorem body : Try.f18.body = some c0 := by kernel_rfl
section
variable {base : Nat} {W0 : World} {β0 : Bt}
def J2 (D : Dp) (H : Hd) (k : Nat) (l : Nat) (y7 : (Option HA)) (y8 : (Option HA)) (y42 : Bool) (S : HS) : Option (HV × HS) :=
  (Option.bind (y8) fun p37 =>
  (Option.bind (HS.sets S p37 [(.bool y42)]) fun p38 =>
  (Option.bind (y7) fun p39 =>
  (Option.bind (HS.ldI p38 .i64 p39) fun p40 =>
  (Option.bind (y7) fun p41 =>
  (Option.bind (HS.sets p38 p41 [(.int .i64 (w64 (p40 + 1)))]) fun p42 =>
  (HS.endr p42 l none)))))))
theorem J2_snd {D : Dp} {H : Hd} {k : Nat} {l : Nat} (hD : DSound Try.prog base W0 D) (hH : HSound Try.prog base W0 β0 H)  {y7 : (Option HA)} {y8 : (Option HA)} {y42 : Bool} {S : HS} {p : HV × HS} {g0 g1 g2 g3 g4 g5 g6 g9 g10 g11 g12 g13 g14 g15 g16 g17 g18 g19 g20 g21 g22 g23 g24 g25 g26 g27 g28 g29 g30 g31 g32 g33 g34 g35 g36 g37 g38 g39 g40 g41 g43 g44 g45 g46 g47 g48 g49 g50 g51 : HV} (h : J2 D H k l y7 y8 y42 S = some p) : HRun Try.prog base W0 β0 18 (some l) [.inRegion r34 [19], .code c35, .inBlock 1] ⟨[g0, g1, g2, g3, g4, g5, g6, (.ptr y7), (.ptr y8), g9, g10, g11, g12, g13, g14, g15, g16, g17, g18, g19, g20, g21, g22, g23, g24, g25, g26, g27, g28, g29, g30, g31, g32, g33, g34, g35, g36, g37, g38, g39, g40, g41, (.bool y42), g43, g44, g45, g46, g47, g48, g49, g50, g51], []⟩ S (fun v S1 => v = p.1 ∧ S1 = p.2) := by
  unfold J2 at h
  obtain ⟨p37, hp37, h⟩ := bindo h
  obtain ⟨p38, hp38, h⟩ := bindo h
  refine q_op (dst := none) rfl (fun _ ho => ok_store_s (v := (.bool y42)) ho sz4 (.tmp rfl) hp37 (.tmp rfl) rfl hp38) ?_
  refine hr_region_end ?_
  try dsimp only [HAct.put, List.set_cons_zero, List.set_cons_succ]
  refine q_region e35 rfl ?_
  obtain ⟨p39, hp39, h⟩ := bindo h
  obtain ⟨p40, hp40, h⟩ := bindo h
  refine q_op (dst := some 43) rfl (fun _ ho => ok_load_s ho sc3 (.tmp rfl) hp39 (ldI_out hp40)) ?_
  refine q_op (dst := some 44) rfl (fun _ ho => ok_ibin ho (.tmp rfl) (.int _ _) rfl) ?_
  obtain ⟨p41, hp41, h⟩ := bindo h
  obtain ⟨p42, hp42, h⟩ := bindo h
  refine q_op (dst := none) rfl (fun _ ho => ok_store_s (v := (.int .i64 (w64 (p40 + 1)))) ho sz3 (.tmp rfl) hp41 (.tmp rfl) rfl hp42) ?_
  refine hr_region_end ?_
  try dsimp only [HAct.put, List.set_cons_zero, List.set_cons_succ]
  refine hr_inBlock ?_
  exact q_round_end h ⟨rfl, rfl⟩
def J1 (D : Dp) (H : Hd) (k : Nat) (l : Nat) (y4 : (Option HA)) (y7 : (Option HA)) (y8 : (Option HA)) (y11 : Int) (y33 : Bool) (S : HS) : Option (HV × HS) :=
  (if y33 = true then
  (Option.bind (y4) fun p31 =>
  (Option.bind (HS.ldSl S p31) fun p32 =>
  (Option.bind (y7) fun p33 =>
  (Option.bind (HS.ldI S .i64 p33) fun p34 =>
  (Option.bind (HS.idx S p32 p34 2) fun p35 =>
  (Option.bind (HS.ldI S .i64 (HA.fld p35 1)) fun p36 =>
  J2 D H k l y7 y8 (decide (y11 = p36)) S)))))) else
  J2 D H k l y7 y8 false S)
theorem J1_snd {D : Dp} {H : Hd} {k : Nat} {l : Nat} (hD : DSound Try.prog base W0 D) (hH : HSound Try.prog base W0 β0 H)  {y4 : (Option HA)} {y7 : (Option HA)} {y8 : (Option HA)} {y11 : Int} {y33 : Bool} {S : HS} {p : HV × HS} {g0 g1 g2 g3 g5 g6 g9 g10 g12 g13 g14 g15 g16 g17 g18 g19 g20 g21 g22 g23 g24 g25 g26 g27 g28 g29 g30 g31 g32 g34 g35 g36 g37 g38 g39 g40 g41 g42 g43 g44 g45 g46 g47 g48 g49 g50 g51 : HV} (h : J1 D H k l y4 y7 y8 y11 y33 S = some p) : HRun Try.prog base W0 β0 18 (some l) [.inRegion r34 [10, 11, 12, 13, 14, 15, 16, 17, 18, 19], .code c35, .inBlock 1] ⟨[g0, g1, g2, g3, (.ptr y4), g5, g6, (.ptr y7), (.ptr y8), g9, g10, (.int .i64 y11), g12, g13, g14, g15, g16, g17, g18, g19, g20, g21, g22, g23, g24, g25, g26, g27, g28, g29, g30, g31, g32, (.bool y33), g34, g35, g36, g37, g38, g39, g40, g41, g42, g43, g44, g45, g46, g47, g48, g49, g50, g51], []⟩ S (fun v S1 => v = p.1 ∧ S1 = p.2) := by
  unfold J1 at h
  refine q_op (dst := some 34) rfl (fun _ ho => ok_move ho (.tmp rfl)) ?_
  rcases ifc h with ⟨hc30, h⟩ | ⟨hc30, h⟩
  · refine q_op_g (t := 34) (dst := some 35) rfl rfl rfl hc30 (fun _ ho => ok_move ho (.tmp rfl)) ?_
    try dsimp only [HAct.put, List.set_cons_zero, List.set_cons_succ]
    obtain ⟨p31, hp31, h⟩ := bindo h
    obtain ⟨p32, hp32, h⟩ := bindo h
    refine q_op_g (t := 34) (dst := some 36) rfl rfl rfl hc30 (fun _ ho => ok_load_s ho sc28 (.tmp rfl) hp31 (ldSl_out hp32)) ?_
    obtain ⟨p33, hp33, h⟩ := bindo h
    obtain ⟨p34, hp34, h⟩ := bindo h
    refine q_op_g (t := 34) (dst := some 37) rfl rfl rfl hc30 (fun _ ho => ok_load_s ho sc3 (.tmp rfl) hp33 (ldI_out hp34)) ?_
    obtain ⟨p35, hp35, h⟩ := bindo h
    refine q_op_g (t := 34) (dst := some 38) rfl rfl rfl hc30 (fun _ ho => ok_indexAddr (s := p32) ho tu28 sz38 (.tmp rfl) (.tmp rfl) hp35) ?_
    refine q_op_g (t := 34) (dst := some 39) rfl rfl rfl hc30 (fun _ ho => ok_fieldAddr_s ho fi38_1 (by decide) (.tmp rfl) rfl) ?_
    try dsimp only [HAct.put, List.set_cons_zero, List.set_cons_succ]
    obtain ⟨p36, hp36, h⟩ := bindo h
    refine q_op_g (t := 34) (dst := some 40) rfl rfl rfl hc30 (fun _ ho => ok_load_s ho sc3 (.tmp rfl) rfl (ldI_out hp36)) ?_
    refine q_op_g (t := 34) (dst := some 41) rfl rfl rfl hc30 (fun _ ho => ok_ibin ho (.tmp rfl) (.tmp rfl) rfl) ?_
    refine q_op (dst := some 42) rfl (fun _ ho => ok_pick_tt ho (.tmp rfl) hc30 (.tmp rfl)) ?_
    try dsimp only [HAct.put, List.set_cons_zero, List.set_cons_succ]
    exact J2_snd hD hH h
  · refine q_skip (dst := some 35) (t := 34) rfl rfl rfl (bfalse hc30) ?_
    try dsimp only [HAct.put, List.set_cons_zero, List.set_cons_succ]
    refine q_skip (dst := some 36) (t := 34) rfl rfl rfl (bfalse hc30) ?_
    refine q_skip (dst := some 37) (t := 34) rfl rfl rfl (bfalse hc30) ?_
    refine q_skip (dst := some 38) (t := 34) rfl rfl rfl (bfalse hc30) ?_
    refine q_skip (dst := some 39) (t := 34) rfl rfl rfl (bfalse hc30) ?_
    try dsimp only [HAct.put, List.set_cons_zero, List.set_cons_succ]
    refine q_skip (dst := some 40) (t := 34) rfl rfl rfl (bfalse hc30) ?_
    refine q_skip (dst := some 41) (t := 34) rfl rfl rfl (bfalse hc30) ?_
    refine q_op (dst := some 42) rfl (fun _ ho => ok_pick_ff ho (.tmp rfl) (bfalse hc30) (.bool _)) ?_
    try dsimp only [HAct.put, List.set_cons_zero, List.set_cons_succ]
    exact J2_snd hD hH h
def J0 (D : Dp) (H : Hd) (k : Nat) (l : Nat) (y4 : (Option HA)) (y6 : (Option HA)) (y7 : (Option HA)) (y8 : (Option HA)) (y18 : (List UInt8)) (y19 : Int) (S : HS) : Option (HV × HS) :=
  (Option.bind (HS.begin_ S l) fun p13 =>
  (Option.bind (y7) fun p14 =>
  (Option.bind (HS.ldI p13 .i64 p14) fun p15 =>
  (Option.bind (y4) fun p16 =>
  (Option.bind (HS.ldSl p13 p16) fun p17 =>
  (if p15 ≥ (Sl.len p17 : Int) then
  (Option.bind (y6) fun p19 =>
  (Option.bind (HS.sets p13 p19 [(.bool false)]) fun p20 =>
  (HS.endr p20 l (some .ret)))) else
  (Option.bind (y8) fun p21 =>
  (Option.bind (HS.ldB p13 p21) fun p22 =>
  (if p22 = true then
  (Option.bind (y4) fun p24 =>
  (Option.bind (HS.ldSl p13 p24) fun p25 =>
  (Option.bind (y7) fun p26 =>
  (Option.bind (HS.ldI p13 .i64 p26) fun p27 =>
  (Option.bind (HS.idx p13 p25 p27 2) fun p28 =>
  (Option.bind (HS.ldS p13 (HA.fld p28 0)) fun p29 =>
  J1 D H k l y4 y7 y8 y19 (decide (y18 = p29)) p13)))))) else
  J1 D H k l y4 y7 y8 y19 false p13)))))))))
theorem J0_snd {D : Dp} {H : Hd} {k : Nat} {l : Nat} (hD : DSound Try.prog base W0 D) (hH : HSound Try.prog base W0 β0 H)  {y4 : (Option HA)} {y6 : (Option HA)} {y7 : (Option HA)} {y8 : (Option HA)} {y18 : (List UInt8)} {y19 : Int} {S : HS} {p : HV × HS} {g0 g1 g2 g3 g5 g9 g10 g11 g12 g13 g14 g15 g16 g17 g20 g21 g22 g23 g24 g25 g26 g27 g28 g29 g30 g31 g32 g33 g34 g35 g36 g37 g38 g39 g40 g41 g42 g43 g44 g45 g46 g47 g48 g49 g50 g51 : HV} (h : J0 D H k l y4 y6 y7 y8 y18 y19 S = some p) : HRun Try.prog base W0 β0 18 (some l) [.code c21, .beginRound, .code c24] ⟨[g0, g1, g2, g3, (.ptr y4), g5, (.ptr y6), (.ptr y7), (.ptr y8), g9, g10, g11, g12, g13, g14, g15, g16, g17, (.str y18), (.int .i64 y19), g20, g21, g22, g23, g24, g25, g26, g27, g28, g29, g30, g31, g32, g33, g34, g35, g36, g37, g38, g39, g40, g41, g42, g43, g44, g45, g46, g47, g48, g49, g50, g51], []⟩ S (fun v S1 => v = p.1 ∧ S1 = p.2) := by
  unfold J0 at h
  refine q_seq e21 ?_
  refine q_region e22 rfl ?_
  refine q_op (dst := some 10) rfl (fun _ ho => ok_assign ho (.tmp rfl)) ?_
  refine hr_region_end ?_
  try dsimp only [HAct.put, List.set_cons_zero, List.set_cons_succ]
  refine q_region e23 rfl ?_
  refine q_op (dst := some 11) rfl (fun _ ho => ok_assign ho (.tmp rfl)) ?_
  refine hr_region_end ?_
  try dsimp only [HAct.put, List.set_cons_zero, List.set_cons_succ]
  obtain ⟨p13, hp13, h⟩ := bindo h
  refine q_begin hp13 ?_
  refine q_block e24 ?_
  refine q_seq e25 ?_
  refine q_seq e26 ?_
  refine q_region e27 rfl ?_
  obtain ⟨p14, hp14, h⟩ := bindo h
  obtain ⟨p15, hp15, h⟩ := bindo h
  refine q_op (dst := some 20) rfl (fun _ ho => ok_load_s ho sc3 (.tmp rfl) hp14 (ldI_out hp15)) ?_
  obtain ⟨p16, hp16, h⟩ := bindo h
  obtain ⟨p17, hp17, h⟩ := bindo h
  refine q_op (dst := some 21) rfl (fun _ ho => ok_load_s ho sc28 (.tmp rfl) hp16 (ldSl_out hp17)) ?_
  refine q_op (dst := some 22) rfl (fun _ ho => ok_len_sl (q := Sl.a p17) (n := Sl.len p17) (z := Sl.cap p17) ho rfl tu28 (.tmp rfl)) ?_
  refine q_op (dst := some 23) rfl (fun _ ho => ok_ibin ho (.tmp rfl) (.tmp rfl) rfl) ?_
  refine hr_region_end ?_
  try dsimp only [HAct.put, List.set_cons_zero, List.set_cons_succ]
  rcases ifc h with ⟨hc18, h⟩ | ⟨hc18, h⟩
  · refine q_cond_t e28 (.tmp rfl) (decide_eq_true hc18) ?_
    refine q_seq e29 ?_
    refine q_region e30 rfl ?_
    obtain ⟨p19, hp19, h⟩ := bindo h
    obtain ⟨p20, hp20, h⟩ := bindo h
    refine q_op (dst := none) rfl (fun _ ho => ok_store_s (v := (.bool false)) ho sz4 (.tmp rfl) hp19 (.bool _) rfl hp20) ?_
    refine hr_region_end ?_
    try dsimp only [HAct.put, List.set_cons_zero, List.set_cons_succ]
    exact q_round_ret e31 h ⟨rfl, rfl⟩
  · refine q_cond_f e28 (.tmp rfl) (decide_eq_false hc18) ?_
    refine q_skipc e32 ?_
    refine q_seq e33 ?_
    refine q_region e34 rfl ?_
    obtain ⟨p21, hp21, h⟩ := bindo h
    obtain ⟨p22, hp22, h⟩ := bindo h
    refine q_op (dst := some 24) rfl (fun _ ho => ok_load_s ho sc4 (.tmp rfl) hp21 (ldB_out hp22)) ?_
    refine q_op (dst := some 25) rfl (fun _ ho => ok_move ho (.tmp rfl)) ?_
    rcases ifc h with ⟨hc23, h⟩ | ⟨hc23, h⟩
    · refine q_op_g (t := 25) (dst := some 26) rfl rfl rfl hc23 (fun _ ho => ok_move ho (.tmp rfl)) ?_
      obtain ⟨p24, hp24, h⟩ := bindo h
      obtain ⟨p25, hp25, h⟩ := bindo h
      refine q_op_g (t := 25) (dst := some 27) rfl rfl rfl hc23 (fun _ ho => ok_load_s ho sc28 (.tmp rfl) hp24 (ldSl_out hp25)) ?_
      try dsimp only [HAct.put, List.set_cons_zero, List.set_cons_succ]
      obtain ⟨p26, hp26, h⟩ := bindo h
      obtain ⟨p27, hp27, h⟩ := bindo h
      refine q_op_g (t := 25) (dst := some 28) rfl rfl rfl hc23 (fun _ ho => ok_load_s ho sc3 (.tmp rfl) hp26 (ldI_out hp27)) ?_
      obtain ⟨p28, hp28, h⟩ := bindo h
      refine q_op_g (t := 25) (dst := some 29) rfl rfl rfl hc23 (fun _ ho => ok_indexAddr (s := p25) ho tu28 sz38 (.tmp rfl) (.tmp rfl) hp28) ?_
      refine q_op_g (t := 25) (dst := some 30) rfl rfl rfl hc23 (fun _ ho => ok_fieldAddr_s ho fi38_0 (by decide) (.tmp rfl) rfl) ?_
      obtain ⟨p29, hp29, h⟩ := bindo h
      refine q_op_g (t := 25) (dst := some 31) rfl rfl rfl hc23 (fun _ ho => ok_load_s ho sc9 (.tmp rfl) rfl (ldS_out hp29)) ?_
      try dsimp only [HAct.put, List.set_cons_zero, List.set_cons_succ]
      refine q_op_g (t := 25) (dst := some 32) rfl rfl rfl hc23 (fun _ ho => ok_sbin ho (.tmp rfl) (.tmp rfl) rfl) ?_
      refine q_op (dst := some 33) rfl (fun _ ho => ok_pick_tt ho (.tmp rfl) hc23 (.tmp rfl)) ?_
      try dsimp only [HAct.put, List.set_cons_zero, List.set_cons_succ]
      exact J1_snd hD hH h
    · refine q_skip (dst := some 26) (t := 25) rfl rfl rfl (bfalse hc23) ?_
      refine q_skip (dst := some 27) (t := 25) rfl rfl rfl (bfalse hc23) ?_
      try dsimp only [HAct.put, List.set_cons_zero, List.set_cons_succ]
      refine q_skip (dst := some 28) (t := 25) rfl rfl rfl (bfalse hc23) ?_
      refine q_skip (dst := some 29) (t := 25) rfl rfl rfl (bfalse hc23) ?_
      refine q_skip (dst := some 30) (t := 25) rfl rfl rfl (bfalse hc23) ?_
      refine q_skip (dst := some 31) (t := 25) rfl rfl rfl (bfalse hc23) ?_
      try dsimp only [HAct.put, List.set_cons_zero, List.set_cons_succ]
      refine q_skip (dst := some 32) (t := 25) rfl rfl rfl (bfalse hc23) ?_
      refine q_op (dst := some 33) rfl (fun _ ho => ok_pick_ff ho (.tmp rfl) (bfalse hc23) (.bool _)) ?_
      try dsimp only [HAct.put, List.set_cons_zero, List.set_cons_succ]
      exact J1_snd hD hH h
def J3 (D : Dp) (H : Hd) (k : Nat) (y6 : (Option HA)) (y51 : Bool) (ds : List Nat) (S : HS) : Option ((Bool) × HS) :=
  (Option.bind (y6) fun p55 =>
  (Option.bind (HS.sets S p55 [(.bool y51)]) fun p56 =>
  (Option.bind (HS.leave p56 ds) fun p57 =>
  (Option.bind (y6) fun p58 =>
  (Option.bind (HS.ldB p57 p58) fun p59 =>
  some (p59, p57))))))
theorem J3_snd {D : Dp} {H : Hd} {k : Nat} (hD : DSound Try.prog base W0 D) (hH : HSound Try.prog base W0 β0 H)  {y6 : (Option HA)} {y51 : Bool} {ds : List Nat} {S : HS} {p : (Bool) × HS} {g0 g1 g2 g3 g4 g5 g7 g8 g9 g10 g11 g12 g13 g14 g15 g16 g17 g18 g19 g20 g21 g22 g23 g24 g25 g26 g27 g28 g29 g30 g31 g32 g33 g34 g35 g36 g37 g38 g39 g40 g41 g42 g43 g44 g45 g46 g47 g48 g49 g50 : HV} (h : J3 D H k y6 y51 ds S = some p) : HRun Try.prog base W0 β0 18 none [.inRegion r37 [7], .code c38] ⟨[g0, g1, g2, g3, g4, g5, (.ptr y6), g7, g8, g9, g10, g11, g12, g13, g14, g15, g16, g17, g18, g19, g20, g21, g22, g23, g24, g25, g26, g27, g28, g29, g30, g31, g32, g33, g34, g35, g36, g37, g38, g39, g40, g41, g42, g43, g44, g45, g46, g47, g48, g49, g50, (.bool y51)], ds⟩ S (fun v S1 => v = (.bool p.1) ∧ S1 = p.2) := by
  unfold J3 at h
  obtain ⟨p55, hp55, h⟩ := bindo h
  obtain ⟨p56, hp56, h⟩ := bindo h
  refine q_op (dst := none) rfl (fun _ ho => ok_store_s (v := (.bool y51)) ho sz4 (.tmp rfl) hp55 (.tmp rfl) rfl hp56) ?_
  refine hr_region_end ?_
  try dsimp only [HAct.put, List.set_cons_zero, List.set_cons_succ]
  obtain ⟨p57, hp57, h⟩ := bindo h
  obtain ⟨p58, hp58, h⟩ := bindo h
  obtain ⟨p59, hp59, h⟩ := bindo h
  cases h
  exact q_ret e38 at_.at_ hp57 (resL1 rfl (.cell rfl hp58 sc4 (ldB_out hp59))) ⟨rfl, rfl⟩
def f (D : Dp) (H : Hd) (k : Nat) (x0 : (Option HA)) (x1 : Sl) (x2 : Int) (S : HS) : Option ((Bool) × HS) :=
  (letv (HS.new S (.cells 1 [[(Sl.hv x1)]] true)) fun p1 =>
  (letv (HS.new p1 (.cells 1 [[(.bool false)]] true)) fun p2 =>
  (letv (HS.new p2 (.cells 1 [[(.int .i64 0)]] true)) fun p3 =>
  (Option.bind (HS.sets p3 (HA.cell0 p2.next) [(.int .i64 0)]) fun p4 =>
  (letv (HS.new p4 (.cells 1 [[(.bool false)]] true)) fun p5 =>
  (Option.bind (HS.sets p5 (HA.cell0 p4.next) [(.bool true)]) fun p6 =>
  (Option.bind (timer_Table_string_Due.f k x0 x2 p6) fun p7 =>
  (Option.bind (HV.isNilFn p7.1) fun p8 =>
  (if (p8) = true then
  (Option.bind (HS.sets p7.2 (HA.cell0 p1.next) [(.bool false)]) fun p10 =>
  (Option.bind (HS.leave p10 []) fun p11 =>
  (Option.bind (HS.ldB p11 (HA.cell0 p1.next)) fun p12 =>
  some (p12, p11)))) else
  (Option.bind (D (Hd.set H (HS.next p7.2 + 1) fun vs T =>
  (Option.bind (HS.lp T (HS.next p7.2 + 1)) fun u46 =>
  (Option.bind (args2 vs) fun ar43 =>
  (Option.bind (dS ar43.1) fun p44 =>
  (Option.bind (dI .i64 ar43.2) fun p45 =>
  (J0 D H k (HS.next p7.2 + 1) (some (HA.cell0 S.next)) (some (HA.cell0 p1.next)) (some (HA.cell0 p2.next)) (some (HA.cell0 p4.next)) p44 p45 T)))))) p7.1 [.fn (.yield (HS.next p7.2 + 1)) [] []] (HS.new (HS.new p7.2 .defer) (.loop .ready none))) fun p47 =>
  (Option.bind (HS.finish p47.2 (HS.next p7.2 + 1)) fun p48 =>
  (Option.bind (pcode p48.1) fun n49 =>
  (if n49 = 0 then
  (Option.bind (HS.ldB p48.2 (HA.cell0 p4.next)) fun p51 =>
  (if p51 = true then
  (Option.bind (HS.ldI p48.2 .i64 (HA.cell0 p2.next)) fun p53 =>
  (Option.bind (HS.ldSl p48.2 (HA.cell0 S.next)) fun p54 =>
  J3 D H k (some (HA.cell0 p1.next)) (decide (p53 = (Sl.len p54 : Int))) (HS.next p7.2 :: []) p48.2)) else
  J3 D H k (some (HA.cell0 p1.next)) false (HS.next p7.2 :: []) p48.2)) else
  (if n49 = 1 then
  (Option.bind (HS.leave p48.2 (HS.next p7.2 :: [])) fun p61 =>
  (Option.bind (HS.ldB p61 (HA.cell0 p1.next)) fun p62 =>
  some (p62, p61))) else
  none))))))))))))))
theorem snd {D : Dp} {H : Hd} {k : Nat} {x0 : (Option HA)} {x1 : Sl} {x2 : Int} {S : HS} (hD : DSound Try.prog base W0 D) (hH : HSound Try.prog base W0 β0 H)  {p : (Bool) × HS} (h : f D H k x0 x1 x2 S = some p) : HCall Try.prog base W0 β0 18 [(.ptr x0), (Sl.hv x1), (.int .i64 x2)] S (fun v S1 => v = (.bool p.1) ∧ S1 = p.2) := by
  unfold f at h
  refine HCall.of_run at_.at_ body ?_
  show HRun Try.prog base W0 β0 18 none [.code c0] ⟨[(.ptr x0), (Sl.hv x1), (.int .i64 x2), .tup [], .tup [], .tup [], .tup [], .tup [], .tup [], .tup [], .tup [], .tup [], .tup [], .tup [], .tup [], .tup [], .tup [], .tup [], .tup [], .tup [], .tup [], .tup [], .tup [], .tup [], .tup [], .tup [], .tup [], .tup [], .tup [], .tup [], .tup [], .tup [], .tup [], .tup [], .tup [], .tup [], .tup [], .tup [], .tup [], .tup [], .tup [], .tup [], .tup [], .tup [], .tup [], .tup [], .tup [], .tup [], .tup [], .tup [], .tup [], .tup []], []⟩ S _
  refine q_seq e0 ?_
  refine q_region e1 rfl ?_
  obtain ⟨p1, hp1, h⟩ := leto h
  refine q_op (dst := some 4) rfl (fun _ ho => ok_box_e ho (.tmp rfl) (Nat.zero_lt_succ _) rfl hp1) ?_
  obtain ⟨p2, hp2, h⟩ := leto h
  refine q_op (dst := some 6) rfl (fun _ ho => ok_alloc_e ho zi4 zr4 (by decide) rfl hp2) ?_
  refine hr_region_end ?_
  try dsimp only [HAct.put, List.set_cons_zero, List.set_cons_succ]
  refine q_seq e2 ?_
  refine q_region e3 rfl ?_
  obtain ⟨p3, hp3, h⟩ := leto h
  refine q_op (dst := some 7) rfl (fun _ ho => ok_alloc_e ho zi3 zr3 (by decide) rfl hp3) ?_
  obtain ⟨p4, hp4, h⟩ := bindo h
  refine q_op (dst := none) rfl (fun _ ho => ok_store_s (v := (.int .i64 0)) ho sz3 (.tmp rfl) rfl (.int _ _) rfl hp4) ?_
  refine hr_region_end ?_
  try dsimp only [HAct.put, List.set_cons_zero, List.set_cons_succ]
  refine q_seq e4 ?_
  refine q_region e5 rfl ?_
  obtain ⟨p5, hp5, h⟩ := leto h
  refine q_op (dst := some 8) rfl (fun _ ho => ok_alloc_e ho zi4 zr4 (by decide) rfl hp5) ?_
  obtain ⟨p6, hp6, h⟩ := bindo h
  refine q_op (dst := none) rfl (fun _ ho => ok_store_s (v := (.bool true)) ho sz4 (.tmp rfl) rfl (.bool _) rfl hp6) ?_
  refine hr_region_end ?_
  try dsimp only [HAct.put, List.set_cons_zero, List.set_cons_succ]
  refine q_seq e6 ?_
  refine q_region e7 rfl ?_
  refine q_op (dst := some 12) rfl (fun _ ho => ok_move ho (.tmp rfl)) ?_
  refine q_op (dst := some 13) rfl (fun _ ho => ok_move ho (.tmp rfl)) ?_
  obtain ⟨p7, hp7, h⟩ := bindo h
  refine q_call (dst := some 14) rfl (.func _) (.cons (.tmp rfl) (.cons (.tmp rfl) Evs.nil)) (HInv.static timer_Table_string_Due.at_ timer_Table_string_Due.body (timer_Table_string_Due.snd  hp7)) ?_
  rintro _ _ ⟨rfl, rfl⟩
  refine q_op (dst := some 9) rfl (fun _ ho => ok_assign ho (.tmp rfl)) ?_
  refine hr_region_end ?_
  try dsimp only [HAct.put, List.set_cons_zero, List.set_cons_succ]
  refine q_seq e8 ?_
  refine q_seq e9 ?_
  refine q_region e10 rfl ?_
  refine q_op (dst := some 15) rfl (fun _ ho => ok_move ho (.tmp rfl)) ?_
  obtain ⟨p8, hp8, h⟩ := bindo h
  refine q_op (dst := some 16) rfl (fun _ ho => ok_nil_fn ho tu67 (.tmp rfl) hp8 (.inl ⟨rfl, rfl⟩)) ?_
  refine hr_region_end ?_
  try dsimp only [HAct.put, List.set_cons_zero, List.set_cons_succ]
  rcases ifc h with ⟨hc9, h⟩ | ⟨hc9, h⟩
  · refine q_cond_t e11 (.tmp rfl) hc9 ?_
    refine q_seq e12 ?_
    refine q_region e13 rfl ?_
    obtain ⟨p10, hp10, h⟩ := bindo h
    refine q_op (dst := none) rfl (fun _ ho => ok_store_s (v := (.bool false)) ho sz4 (.tmp rfl) rfl (.bool _) rfl hp10) ?_
    refine hr_region_end ?_
    try dsimp only [HAct.put, List.set_cons_zero, List.set_cons_succ]
    obtain ⟨p11, hp11, h⟩ := bindo h
    obtain ⟨p12, hp12, h⟩ := bindo h
    cases h
    exact q_ret e14 at_.at_ hp11 (resL1 rfl (.cell rfl rfl sc4 (ldB_out hp12))) ⟨rfl, rfl⟩
  · refine q_cond_f e11 (.tmp rfl) (bfalse hc9) ?_
    refine q_skipc e15 ?_
    refine q_seq e16 ?_
    refine q_seq e17 ?_
    refine q_region e18 rfl ?_
    refine q_op (dst := some 17) rfl (fun _ ho => ok_move ho (.tmp rfl)) ?_
    refine hr_region_end ?_
    try dsimp only [HAct.put, List.set_cons_zero, List.set_cons_succ]
    refine q_block e19 ?_
    obtain ⟨p47, hp47, h⟩ := bindo h
    obtain ⟨p48, hp48, h⟩ := bindo h
    obtain ⟨n49, hn49, h⟩ := bindo h
    refine q_range (D := D) (H := H) e20 (.tmp rfl) hD hH hp47 hp48 ?_ ?_
    · intro β1 hle hLA vs T u T' hr
      obtain ⟨u46, hu46, hr⟩ := bindo hr
      obtain ⟨ar43, har43, hr⟩ := bindo hr
      obtain ⟨p44, hp44, hr⟩ := bindo hr
      obtain ⟨p45, hp45, hr⟩ := bindo hr
      rw [args2_out har43]
      refine q_yield2 hLA hu46 rfl rfl ?_
      rw [dS_out hp44, dI_out hp45]
      simp only [HAct.params, List.set_cons_zero, List.set_cons_succ]
      exact J0_snd hD (hH.up hle) hr
    · rcases ifc h with ⟨hc50, h⟩ | ⟨hc50, h⟩
      · rw [pcode0 hn49 hc50]
        simp only [jumped_none, jumped_some]
        refine hr_inBlock ?_
        refine q_seq e36 ?_
        refine q_region e37 rfl ?_
        obtain ⟨p51, hp51, h⟩ := bindo h
        refine q_op (dst := some 45) rfl (fun _ ho => ok_load_s ho sc4 (.tmp rfl) rfl (ldB_out hp51)) ?_
        refine q_op (dst := some 46) rfl (fun _ ho => ok_move ho (.tmp rfl)) ?_
        rcases ifc h with ⟨hc52, h⟩ | ⟨hc52, h⟩
        · obtain ⟨p53, hp53, h⟩ := bindo h
          refine q_op_g (t := 46) (dst := some 47) rfl rfl rfl hc52 (fun _ ho => ok_load_s ho sc3 (.tmp rfl) rfl (ldI_out hp53)) ?_
          obtain ⟨p54, hp54, h⟩ := bindo h
          refine q_op_g (t := 46) (dst := some 48) rfl rfl rfl hc52 (fun _ ho => ok_load_s ho sc28 (.tmp rfl) rfl (ldSl_out hp54)) ?_
          try dsimp only [HAct.put, List.set_cons_zero, List.set_cons_succ]
          refine q_op_g (t := 46) (dst := some 49) rfl rfl rfl hc52 (fun _ ho => ok_len_sl (q := Sl.a p54) (n := Sl.len p54) (z := Sl.cap p54) ho rfl tu28 (.tmp rfl)) ?_
          refine q_op_g (t := 46) (dst := some 50) rfl rfl rfl hc52 (fun _ ho => ok_ibin ho (.tmp rfl) (.tmp rfl) rfl) ?_
          refine q_op (dst := some 51) rfl (fun _ ho => ok_pick_tt ho (.tmp rfl) hc52 (.tmp rfl)) ?_
          try dsimp only [HAct.put, List.set_cons_zero, List.set_cons_succ]
          exact J3_snd hD hH h
        · refine q_skip (dst := some 47) (t := 46) rfl rfl rfl (bfalse hc52) ?_
          refine q_skip (dst := some 48) (t := 46) rfl rfl rfl (bfalse hc52) ?_
          try dsimp only [HAct.put, List.set_cons_zero, List.set_cons_succ]
          refine q_skip (dst := some 49) (t := 46) rfl rfl rfl (bfalse hc52) ?_
          refine q_skip (dst := some 50) (t := 46) rfl rfl rfl (bfalse hc52) ?_
          refine q_op (dst := some 51) rfl (fun _ ho => ok_pick_ff ho (.tmp rfl) (bfalse hc52) (.bool _)) ?_
          try dsimp only [HAct.put, List.set_cons_zero, List.set_cons_succ]
          exact J3_snd hD hH h
      · rcases ifc h with ⟨hc60, h⟩ | ⟨hc60, h⟩
        · rw [pcode1 hn49 hc60]
          simp only [jumped_none, jumped_some]
          obtain ⟨p61, hp61, h⟩ := bindo h
          obtain ⟨p62, hp62, h⟩ := bindo h
          cases h
          exact q_ret rfl at_.at_ hp61 (resL1 rfl (.cell rfl rfl sc4 (ldB_out hp62))) ⟨rfl, rfl⟩
        · cases h
end
end rollcalllaw09_same
namespace rollcalllaw09_TimerNone
abbrev id : Nat := 5
theorem at_ : FnAt Try.prog 5 Try.f5 := ⟨Try.func5, by kernel_rfl⟩
noncomputable def c0 : Code := (Try.f5.body).getD .skip
noncomputable def c1 : Code := match c0 with | .seq x _ => x | _ => .skip
noncomputable def c2 : Code := match c0 with | .seq _ x => x | _ => .skip
noncomputable def c3 : Code := match c2 with | .seq x _ => x | _ => .skip
noncomputable def c4 : Code := match c3 with | .seq x _ => x | _ => .skip
noncomputable def c5 : Code := match c3 with | .seq _ x => x | _ => .skip
noncomputable def c6 : Code := match c5 with | .cond _ x _ => x | _ => .skip
noncomputable def c7 : Code := match c6 with | .seq x _ => x | _ => .skip
noncomputable def c8 : Code := match c6 with | .seq _ x => x | _ => .skip
noncomputable def c9 : Code := match c5 with | .cond _ _ x => x | _ => .skip
noncomputable def c10 : Code := match c2 with | .seq _ x => x | _ => .skip
noncomputable def c11 : Code := match c10 with | .seq x _ => x | _ => .skip
noncomputable def c12 : Code := match c11 with | .seq x _ => x | _ => .skip
noncomputable def c13 : Code := match c11 with | .seq _ x => x | _ => .skip
noncomputable def c14 : Code := match c13 with | .cond _ x _ => x | _ => .skip
noncomputable def c15 : Code := match c14 with | .seq x _ => x | _ => .skip
noncomputable def c16 : Code := match c14 with | .seq _ x => x | _ => .skip
noncomputable def c17 : Code := match c13 with | .cond _ _ x => x | _ => .skip
noncomputable def c18 : Code := match c10 with | .seq _ x => x | _ => .skip
noncomputable def c19 : Code := match c18 with | .seq x _ => x | _ => .skip
noncomputable def c20 : Code := match c18 with | .seq _ x => x | _ => .skip
noncomputable def c21 : Code := match c20 with | .seq x _ => x | _ => .skip
noncomputable def c22 : Code := match c20 with | .seq _ x => x | _ => .skip
noncomputable def c23 : Code := match c22 with | .seq x _ => x | _ => .skip
noncomputable def c24 : Code := match c22 with | .seq _ x => x | _ => .skip
noncomputable def c25 : Code := match c24 with | .seq x _ => x | _ => .skip
noncomputable def c26 : Code := match c24 with | .seq _ x => x | _ => .skip
noncomputable def c27 : Code := match c26 with | .seq x _ => x | _ => .skip
noncomputable def c28 : Code := match c26 with | .seq _ x => x | _ => .skip
theorem e0 : c0 = .seq c1 c2 := by kernel_rfl
noncomputable def r1 : Array Oper := match c1 with | .region _ x _ => x | _ => #[]
theorem e1 : c1 = .region 0 r1 false := by kernel_rfl
theorem e2 : c2 = .seq c3 c10 := by kernel_rfl
theorem e3 : c3 = .seq c4 c5 := by kernel_rfl
noncomputable def r4 : Array Oper := match c4 with | .region _ x _ => x | _ => #[]
theorem e4 : c4 = .region 1 r4 false := by kernel_rfl
theorem e5 : c5 = .cond (.tmp 12) c6 c9 := by kernel_rfl
theorem e6 : c6 = .seq c7 c8 := by kernel_rfl
noncomputable def r7 : Array Oper := match c7 with | .region _ x _ => x | _ => #[]
theorem e7 : c7 = .region 2 r7 false := by kernel_rfl
theorem e8 : c8 = .ret := by kernel_rfl
theorem e9 : c9 = .skip := by kernel_rfl
theorem e10 : c10 = .seq c11 c18 := by kernel_rfl
theorem e11 : c11 = .seq c12 c13 := by kernel_rfl
noncomputable def r12 : Array Oper := match c12 with | .region _ x _ => x | _ => #[]
theorem e12 : c12 = .region 3 r12 false := by kernel_rfl
theorem e13 : c13 = .cond (.tmp 15) c14 c17 := by kernel_rfl
theorem e14 : c14 = .seq c15 c16 := by kernel_rfl
noncomputable def r15 : Array Oper := match c15 with | .region _ x _ => x | _ => #[]
theorem e15 : c15 = .region 4 r15 false := by kernel_rfl
theorem e16 : c16 = .ret := by kernel_rfl
theorem e17 : c17 = .skip := by kernel_rfl
theorem e18 : c18 = .seq c19 c20 := by kernel_rfl
noncomputable def r19 : Array Oper := match c19 with | .region _ x _ => x | _ => #[]
theorem e19 : c19 = .region 5 r19 false := by kernel_rfl
theorem e20 : c20 = .seq c21 c22 := by kernel_rfl
noncomputable def r21 : Array Oper := match c21 with | .region _ x _ => x | _ => #[]
theorem e21 : c21 = .region 6 r21 false := by kernel_rfl
theorem e22 : c22 = .seq c23 c24 := by kernel_rfl
noncomputable def r23 : Array Oper := match c23 with | .region _ x _ => x | _ => #[]
theorem e23 : c23 = .region 7 r23 false := by kernel_rfl
theorem e24 : c24 = .seq c25 c26 := by kernel_rfl
noncomputable def r25 : Array Oper := match c25 with | .region _ x _ => x | _ => #[]
theorem e25 : c25 = .region 8 r25 false := by kernel_rfl
theorem e26 : c26 = .seq c27 c28 := by kernel_rfl
noncomputable def r27 : Array Oper := match c27 with | .region _ x _ => x | _ => #[]
theorem e27 : c27 = .region 9 r27 false := by kernel_rfl
theorem e28 : c28 = .ret := by kernel_rfl
theorem body : Try.f5.body = some c0 := by kernel_rfl
section
variable {base : Nat} {W0 : World} {β0 : Bt}
def J5 (D : Dp) (H : Hd) (k : Nat) (y64 : Bool) (S : HS) : Option ((Bool) × HS) :=
  some (y64, S)
theorem J5_snd {D : Dp} {H : Hd} {k : Nat} (hD : DSound Try.prog base W0 D) (hH : HSound Try.prog base W0 β0 H)  {y64 : Bool} {S : HS} {p : (Bool) × HS} {g0 g1 g2 g3 g4 g5 g6 g7 g8 g9 g10 g11 g12 g13 g14 g15 g16 g17 g18 g19 g20 g21 g22 g23 g24 g25 g26 g27 g28 g29 g30 g31 g32 g33 g34 g35 g36 g37 g38 g39 g40 g41 g42 g43 g44 g45 g46 g47 g48 g49 g50 g51 g52 g53 g54 g55 g56 g57 g58 g59 g60 g61 g62 g63 : HV} (h : J5 D H k y64 S = some p) : HRun Try.prog base W0 β0 5 none [.inRegion r27 [33], .code c28] ⟨[g0, g1, g2, g3, g4, g5, g6, g7, g8, g9, g10, g11, g12, g13, g14, g15, g16, g17, g18, g19, g20, g21, g22, g23, g24, g25, g26, g27, g28, g29, g30, g31, g32, g33, g34, g35, g36, g37, g38, g39, g40, g41, g42, g43, g44, g45, g46, g47, g48, g49, g50, g51, g52, g53, g54, g55, g56, g57, g58, g59, g60, g61, g62, g63, (.bool y64)], []⟩ S (fun v S1 => v = (.bool p.1) ∧ S1 = p.2) := by
  unfold J5 at h
  refine q_op (dst := some 4) rfl (fun _ ho => ok_assign ho (.tmp rfl)) ?_
  refine hr_region_end ?_
  try dsimp only [HAct.put, List.set_cons_zero, List.set_cons_succ]
  cases h
  exact q_ret e28 at_.at_ rfl (res1 rfl rfl) ⟨rfl, rfl⟩
def J4 (D : Dp) (H : Hd) (k : Nat) (y1 : Int) (y5 : (Option HA)) (y59 : Bool) (S : HS) : Option ((Bool) × HS) :=
  (if y59 = true then
  (Option.bind (rollcalllaw09_same.f D H k y5 Sl.nil y1 S) fun p16 =>
  J5 D H k p16.1 p16.2) else
  J5 D H k false S)
theorem J4_snd {D : Dp} {H : Hd} {k : Nat} (hD : DSound Try.prog base W0 D) (hH : HSound Try.prog base W0 β0 H)  {y1 : Int} {y5 : (Option HA)} {y59 : Bool} {S : HS} {p : (Bool) × HS} {g0 g2 g3 g4 g6 g7 g8 g9 g10 g11 g12 g13 g14 g15 g16 g17 g18 g19 g20 g21 g22 g23 g24 g25 g26 g27 g28 g29 g30 g31 g32 g33 g34 g35 g36 g37 g38 g39 g40 g41 g42 g43 g44 g45 g46 g47 g48 g49 g50 g51 g52 g53 g54 g55 g56 g57 g58 g60 g61 g62 g63 g64 : HV} (h : J4 D H k y1 y5 y59 S = some p) : HRun Try.prog base W0 β0 5 none [.inRegion r27 [28, 29, 30, 31, 32, 33], .code c28] ⟨[g0, (.int .i64 y1), g2, g3, g4, (.ptr y5), g6, g7, g8, g9, g10, g11, g12, g13, g14, g15, g16, g17, g18, g19, g20, g21, g22, g23, g24, g25, g26, g27, g28, g29, g30, g31, g32, g33, g34, g35, g36, g37, g38, g39, g40, g41, g42, g43, g44, g45, g46, g47, g48, g49, g50, g51, g52, g53, g54, g55, g56, g57, g58, (.bool y59), g60, g61, g62, g63, g64], []⟩ S (fun v S1 => v = (.bool p.1) ∧ S1 = p.2) := by
  unfold J4 at h
  refine q_op (dst := some 60) rfl (fun _ ho => ok_move ho (.tmp rfl)) ?_
  rcases ifc h with ⟨hc15, h⟩ | ⟨hc15, h⟩
  · refine q_op_g (t := 60) (dst := some 61) rfl rfl rfl hc15 (fun _ ho => ok_move ho (.tmp rfl)) ?_
    refine q_op_g (t := 60) (dst := some 62) rfl rfl rfl hc15 (fun _ ho => ok_move ho (.tmp rfl)) ?_
    obtain ⟨p16, hp16, h⟩ := bindo h
    refine q_call_g (t := 60) (dst := some 63) rfl rfl rfl hc15 (.func _) (.cons (.tmp rfl) (.cons (.const fun _ => .slNil none) (.cons (.tmp rfl) Evs.nil))) (HInv.static rollcalllaw09_same.at_ rollcalllaw09_same.body (rollcalllaw09_same.snd hD hH hp16)) ?_
    rintro _ _ ⟨rfl, rfl⟩
    try dsimp only [HAct.put, List.set_cons_zero, List.set_cons_succ]
    refine q_op (dst := some 64) rfl (fun _ ho => ok_pick_tt ho (.tmp rfl) hc15 (.tmp rfl)) ?_
    try dsimp only [HAct.put, List.set_cons_zero, List.set_cons_succ]
    exact J5_snd hD hH h
  · refine q_skip (dst := some 61) (t := 60) rfl rfl rfl (bfalse hc15) ?_
    refine q_skip (dst := some 62) (t := 60) rfl rfl rfl (bfalse hc15) ?_
    refine q_skip (dst := some 63) (t := 60) rfl rfl rfl (bfalse hc15) ?_
    try dsimp only [HAct.put, List.set_cons_zero, List.set_cons_succ]
    refine q_op (dst := some 64) rfl (fun _ ho => ok_pick_ff ho (.tmp rfl) (bfalse hc15) (.bool _)) ?_
    try dsimp only [HAct.put, List.set_cons_zero, List.set_cons_succ]
    exact J5_snd hD hH h
def J3 (D : Dp) (H : Hd) (k : Nat) (y1 : Int) (y5 : (Option HA)) (y52 : Bool) (S : HS) : Option ((Bool) × HS) :=
  (if y52 = true then
  (Option.bind (timer_Table_string_Take.f D H k y5 y1 S) fun p14 =>
  J4 D H k y1 y5 (decide ((Sl.len p14.1 : Int) = 0)) p14.2) else
  J4 D H k y1 y5 false S)
theorem J3_snd {D : Dp} {H : Hd} {k : Nat} (hD : DSound Try.prog base W0 D) (hH : HSound Try.prog base W0 β0 H)  {y1 : Int} {y5 : (Option HA)} {y52 : Bool} {S : HS} {p : (Bool) × HS} {g0 g2 g3 g4 g6 g7 g8 g9 g10 g11 g12 g13 g14 g15 g16 g17 g18 g19 g20 g21 g22 g23 g24 g25 g26 g27 g28 g29 g30 g31 g32 g33 g34 g35 g36 g37 g38 g39 g40 g41 g42 g43 g44 g45 g46 g47 g48 g49 g50 g51 g53 g54 g55 g56 g57 g58 g59 g60 g61 g62 g63 g64 : HV} (h : J3 D H k y1 y5 y52 S = some p) : HRun Try.prog base W0 β0 5 none [.inRegion r27 [21, 22, 23, 24, 25, 26, 27, 28, 29, 30, 31, 32, 33], .code c28] ⟨[g0, (.int .i64 y1), g2, g3, g4, (.ptr y5), g6, g7, g8, g9, g10, g11, g12, g13, g14, g15, g16, g17, g18, g19, g20, g21, g22, g23, g24, g25, g26, g27, g28, g29, g30, g31, g32, g33, g34, g35, g36, g37, g38, g39, g40, g41, g42, g43, g44, g45, g46, g47, g48, g49, g50, g51, (.bool y52), g53, g54, g55, g56, g57, g58, g59, g60, g61, g62, g63, g64], []⟩ S (fun v S1 => v = (.bool p.1) ∧ S1 = p.2) := by
  unfold J3 at h
  refine q_op (dst := some 53) rfl (fun _ ho => ok_move ho (.tmp rfl)) ?_
  rcases ifc h with ⟨hc13, h⟩ | ⟨hc13, h⟩
  · refine q_op_g (t := 53) (dst := some 54) rfl rfl rfl hc13 (fun _ ho => ok_move ho (.tmp rfl)) ?_
    refine q_op_g (t := 53) (dst := some 55) rfl rfl rfl hc13 (fun _ ho => ok_move ho (.tmp rfl)) ?_
    try dsimp only [HAct.put, List.set_cons_zero, List.set_cons_succ]
    obtain ⟨p14, hp14, h⟩ := bindo h
    refine q_call_g (t := 53) (dst := some 56) rfl rfl rfl hc13 (.func _) (.cons (.tmp rfl) (.cons (.tmp rfl) Evs.nil)) (HInv.static timer_Table_string_Take.at_ timer_Table_string_Take.body (timer_Table_string_Take.snd hD hH hp14)) ?_
    rintro _ _ ⟨rfl, rfl⟩
    refine q_op_g (t := 53) (dst := some 57) rfl rfl rfl hc13 (fun _ ho => ok_len_sl (q := Sl.a p14.1) (n := Sl.len p14.1) (z := Sl.cap p14.1) ho rfl tu34 (.tmp rfl)) ?_
    refine q_op_g (t := 53) (dst := some 58) rfl rfl rfl hc13 (fun _ ho => ok_ibin ho (.tmp rfl) (.int _ _) rfl) ?_
    refine q_op (dst := some 59) rfl (fun _ ho => ok_pick_tt ho (.tmp rfl) hc13 (.tmp rfl)) ?_
    try dsimp only [HAct.put, List.set_cons_zero, List.set_cons_succ]
    try dsimp only [HAct.put, List.set_cons_zero, List.set_cons_succ]
    exact J4_snd hD hH h
  · refine q_skip (dst := some 54) (t := 53) rfl rfl rfl (bfalse hc13) ?_
    refine q_skip (dst := some 55) (t := 53) rfl rfl rfl (bfalse hc13) ?_
    try dsimp only [HAct.put, List.set_cons_zero, List.set_cons_succ]
    refine q_skip (dst := some 56) (t := 53) rfl rfl rfl (bfalse hc13) ?_
    refine q_skip (dst := some 57) (t := 53) rfl rfl rfl (bfalse hc13) ?_
    refine q_skip (dst := some 58) (t := 53) rfl rfl rfl (bfalse hc13) ?_
    refine q_op (dst := some 59) rfl (fun _ ho => ok_pick_ff ho (.tmp rfl) (bfalse hc13) (.bool _)) ?_
    try dsimp only [HAct.put, List.set_cons_zero, List.set_cons_succ]
    try dsimp only [HAct.put, List.set_cons_zero, List.set_cons_succ]
    exact J4_snd hD hH h
def J2 (D : Dp) (H : Hd) (k : Nat) (y0 : (List UInt8)) (y1 : Int) (y5 : (Option HA)) (y46 : Bool) (S : HS) : Option ((Bool) × HS) :=
  (if y46 = true then
  (Option.bind (timer_Table_string_Stop.f D H k y5 y0 S) fun p12 =>
  J3 D H k y1 y5 (!p12.1) p12.2) else
  J3 D H k y1 y5 false S)
theorem J2_snd {D : Dp} {H : Hd} {k : Nat} (hD : DSound Try.prog base W0 D) (hH : HSound Try.prog base W0 β0 H)  {y0 : (List UInt8)} {y1 : Int} {y5 : (Option HA)} {y46 : Bool} {S : HS} {p : (Bool) × HS} {g2 g3 g4 g6 g7 g8 g9 g10 g11 g12 g13 g14 g15 g16 g17 g18 g19 g20 g21 g22 g23 g24 g25 g26 g27 g28 g29 g30 g31 g32 g33 g34 g35 g36 g37 g38 g39 g40 g41 g42 g43 g44 g45 g47 g48 g49 g50 g51 g52 g53 g54 g55 g56 g57 g58 g59 g60 g61 g62 g63 g64 : HV} (h : J2 D H k y0 y1 y5 y46 S = some p) : HRun Try.prog base W0 β0 5 none [.inRegion r27 [15, 16, 17, 18, 19, 20, 21, 22, 23, 24, 25, 26, 27, 28, 29, 30, 31, 32, 33], .code c28] ⟨[(.str y0), (.int .i64 y1), g2, g3, g4, (.ptr y5), g6, g7, g8, g9, g10, g11, g12, g13, g14, g15, g16, g17, g18, g19, g20, g21, g22, g23, g24, g25, g26, g27, g28, g29, g30, g31, g32, g33, g34, g35, g36, g37, g38, g39, g40, g41, g42, g43, g44, g45, (.bool y46), g47, g48, g49, g50, g51, g52, g53, g54, g55, g56, g57, g58, g59, g60, g61, g62, g63, g64], []⟩ S (fun v S1 => v = (.bool p.1) ∧ S1 = p.2) := by
  unfold J2 at h
  refine q_op (dst := some 47) rfl (fun _ ho => ok_move ho (.tmp rfl)) ?_
  try dsimp only [HAct.put, List.set_cons_zero, List.set_cons_succ]
  rcases ifc h with ⟨hc11, h⟩ | ⟨hc11, h⟩
  · refine q_op_g (t := 47) (dst := some 48) rfl rfl rfl hc11 (fun _ ho => ok_move ho (.tmp rfl)) ?_
    refine q_op_g (t := 47) (dst := some 49) rfl rfl rfl hc11 (fun _ ho => ok_move ho (.tmp rfl)) ?_
    obtain ⟨p12, hp12, h⟩ := bindo h
    refine q_call_g (t := 47) (dst := some 50) rfl rfl rfl hc11 (.func _) (.cons (.tmp rfl) (.cons (.tmp rfl) Evs.nil)) (HInv.static timer_Table_string_Stop.at_ timer_Table_string_Stop.body (timer_Table_string_Stop.snd hD hH hp12)) ?_
    rintro _ _ ⟨rfl, rfl⟩
    refine q_op_g (t := 47) (dst := some 51) rfl rfl rfl hc11 (fun _ ho => ok_not ho (.tmp rfl)) ?_
    try dsimp only [HAct.put, List.set_cons_zero, List.set_cons_succ]
    refine q_op (dst := some 52) rfl (fun _ ho => ok_pick_tt ho (.tmp rfl) hc11 (.tmp rfl)) ?_
    try dsimp only [HAct.put, List.set_cons_zero, List.set_cons_succ]
    exact J3_snd hD hH h
  · refine q_skip (dst := some 48) (t := 47) rfl rfl rfl (bfalse hc11) ?_
    refine q_skip (dst := some 49) (t := 47) rfl rfl rfl (bfalse hc11) ?_
    refine q_skip (dst := some 50) (t := 47) rfl rfl rfl (bfalse hc11) ?_
    refine q_skip (dst := some 51) (t := 47) rfl rfl rfl (bfalse hc11) ?_
    try dsimp only [HAct.put, List.set_cons_zero, List.set_cons_succ]
    refine q_op (dst := some 52) rfl (fun _ ho => ok_pick_ff ho (.tmp rfl) (bfalse hc11) (.bool _)) ?_
    try dsimp only [HAct.put, List.set_cons_zero, List.set_cons_succ]
    exact J3_snd hD hH h
def J1 (D : Dp) (H : Hd) (k : Nat) (y0 : (List UInt8)) (y1 : Int) (y5 : (Option HA)) (y41 : Bool) (S : HS) : Option ((Bool) × HS) :=
  (if y41 = true then
  (Option.bind (timer_Table_string_Len.f y5 S) fun p10 =>
  J2 D H k y0 y1 y5 (decide (p10.1 = 0)) p10.2) else
  J2 D H k y0 y1 y5 false S)
theorem J1_snd {D : Dp} {H : Hd} {k : Nat} (hD : DSound Try.prog base W0 D) (hH : HSound Try.prog base W0 β0 H)  {y0 : (List UInt8)} {y1 : Int} {y5 : (Option HA)} {y41 : Bool} {S : HS} {p : (Bool) × HS} {g2 g3 g4 g6 g7 g8 g9 g10 g11 g12 g13 g14 g15 g16 g17 g18 g19 g20 g21 g22 g23 g24 g25 g26 g27 g28 g29 g30 g31 g32 g33 g34 g35 g36 g37 g38 g39 g40 g42 g43 g44 g45 g46 g47 g48 g49 g50 g51 g52 g53 g54 g55 g56 g57 g58 g59 g60 g61 g62 g63 g64 : HV} (h : J1 D H k y0 y1 y5 y41 S = some p) : HRun Try.prog base W0 β0 5 none [.inRegion r27 [10, 11, 12, 13, 14, 15, 16, 17, 18, 19, 20, 21, 22, 23, 24, 25, 26, 27, 28, 29, 30, 31, 32, 33], .code c28] ⟨[(.str y0), (.int .i64 y1), g2, g3, g4, (.ptr y5), g6, g7, g8, g9, g10, g11, g12, g13, g14, g15, g16, g17, g18, g19, g20, g21, g22, g23, g24, g25, g26, g27, g28, g29, g30, g31, g32, g33, g34, g35, g36, g37, g38, g39, g40, (.bool y41), g42, g43, g44, g45, g46, g47, g48, g49, g50, g51, g52, g53, g54, g55, g56, g57, g58, g59, g60, g61, g62, g63, g64], []⟩ S (fun v S1 => v = (.bool p.1) ∧ S1 = p.2) := by
  unfold J1 at h
  refine q_op (dst := some 42) rfl (fun _ ho => ok_move ho (.tmp rfl)) ?_
  rcases ifc h with ⟨hc9, h⟩ | ⟨hc9, h⟩
  · refine q_op_g (t := 42) (dst := some 43) rfl rfl rfl hc9 (fun _ ho => ok_move ho (.tmp rfl)) ?_
    try dsimp only [HAct.put, List.set_cons_zero, List.set_cons_succ]
    obtain ⟨p10, hp10, h⟩ := bindo h
    refine q_call_g (t := 42) (dst := some 44) rfl rfl rfl hc9 (.func _) (.cons (.tmp rfl) Evs.nil) (HInv.static timer_Table_string_Len.at_ timer_Table_string_Len.body (timer_Table_string_Len.snd  hp10)) ?_
    rintro _ _ ⟨rfl, rfl⟩
    refine q_op_g (t := 42) (dst := some 45) rfl rfl rfl hc9 (fun _ ho => ok_ibin ho (.tmp rfl) (.int _ _) rfl) ?_
    refine q_op (dst := some 46) rfl (fun _ ho => ok_pick_tt ho (.tmp rfl) hc9 (.tmp rfl)) ?_
    try dsimp only [HAct.put, List.set_cons_zero, List.set_cons_succ]
    exact J2_snd hD hH h
  · refine q_skip (dst := some 43) (t := 42) rfl rfl rfl (bfalse hc9) ?_
    try dsimp only [HAct.put, List.set_cons_zero, List.set_cons_succ]
    refine q_skip (dst := some 44) (t := 42) rfl rfl rfl (bfalse hc9) ?_
    refine q_skip (dst := some 45) (t := 42) rfl rfl rfl (bfalse hc9) ?_
    refine q_op (dst := some 46) rfl (fun _ ho => ok_pick_ff ho (.tmp rfl) (bfalse hc9) (.bool _)) ?_
    try dsimp only [HAct.put, List.set_cons_zero, List.set_cons_succ]
    exact J2_snd hD hH h
def J0 (D : Dp) (H : Hd) (k : Nat) (y0 : (List UInt8)) (y1 : Int) (y5 : (Option HA)) (y9 : Int) (y37 : Bool) (S : HS) : Option ((Bool) × HS) :=
  (if y37 = true then
  J1 D H k y0 y1 y5 (decide (y9 = 0)) S else
  J1 D H k y0 y1 y5 false S)
theorem J0_snd {D : Dp} {H : Hd} {k : Nat} (hD : DSound Try.prog base W0 D) (hH : HSound Try.prog base W0 β0 H)  {y0 : (List UInt8)} {y1 : Int} {y5 : (Option HA)} {y9 : Int} {y37 : Bool} {S : HS} {p : (Bool) × HS} {g2 g3 g4 g6 g7 g8 g10 g11 g12 g13 g14 g15 g16 g17 g18 g19 g20 g21 g22 g23 g24 g25 g26 g27 g28 g29 g30 g31 g32 g33 g34 g35 g36 g38 g39 g40 g41 g42 g43 g44 g45 g46 g47 g48 g49 g50 g51 g52 g53 g54 g55 g56 g57 g58 g59 g60 g61 g62 g63 g64 : HV} (h : J0 D H k y0 y1 y5 y9 y37 S = some p) : HRun Try.prog base W0 β0 5 none [.inRegion r27 [6, 7, 8, 9, 10, 11, 12, 13, 14, 15, 16, 17, 18, 19, 20, 21, 22, 23, 24, 25, 26, 27, 28, 29, 30, 31, 32, 33], .code c28] ⟨[(.str y0), (.int .i64 y1), g2, g3, g4, (.ptr y5), g6, g7, g8, (.int .i64 y9), g10, g11, g12, g13, g14, g15, g16, g17, g18, g19, g20, g21, g22, g23, g24, g25, g26, g27, g28, g29, g30, g31, g32, g33, g34, g35, g36, (.bool y37), g38, g39, g40, g41, g42, g43, g44, g45, g46, g47, g48, g49, g50, g51, g52, g53, g54, g55, g56, g57, g58, g59, g60, g61, g62, g63, g64], []⟩ S (fun v S1 => v = (.bool p.1) ∧ S1 = p.2) := by
  unfold J0 at h
  refine q_op (dst := some 38) rfl (fun _ ho => ok_move ho (.tmp rfl)) ?_
  rcases ifc h with ⟨hc8, h⟩ | ⟨hc8, h⟩
  · refine q_op_g (t := 38) (dst := some 39) rfl rfl rfl hc8 (fun _ ho => ok_move ho (.tmp rfl)) ?_
    try dsimp only [HAct.put, List.set_cons_zero, List.set_cons_succ]
    refine q_op_g (t := 38) (dst := some 40) rfl rfl rfl hc8 (fun _ ho => ok_ibin ho (.tmp rfl) (.int _ _) rfl) ?_
    refine q_op (dst := some 41) rfl (fun _ ho => ok_pick_tt ho (.tmp rfl) hc8 (.tmp rfl)) ?_
    try dsimp only [HAct.put, List.set_cons_zero, List.set_cons_succ]
    exact J1_snd hD hH h
  · refine q_skip (dst := some 39) (t := 38) rfl rfl rfl (bfalse hc8) ?_
    try dsimp only [HAct.put, List.set_cons_zero, List.set_cons_succ]
    refine q_skip (dst := some 40) (t := 38) rfl rfl rfl (bfalse hc8) ?_
    refine q_op (dst := some 41) rfl (fun _ ho => ok_pick_ff ho (.tmp rfl) (bfalse hc8) (.bool _)) ?_
    try dsimp only [HAct.put, List.set_cons_zero, List.set_cons_succ]
    exact J1_snd hD hH h
def f (D : Dp) (H : Hd) (k : Nat) (x0 : (List UInt8)) (x1 : Int) (S : HS) : Option ((Bool) × HS) :=
  (Option.bind (rollcalllaw09_awake.f D H k S) fun p1 =>
  (if (!p1.1) = true then
  some (false, p1.2) else
  (if (List.length x0 : Int) > 20 then
  some (true, p1.2) else
  (Option.bind (timer_Table_string_Set.f D H k none x0 x1 p1.2) fun p4 =>
  (Option.bind (timer_Table_string_At.f none x0 p4.2) fun p5 =>
  (Option.bind (timer_Table_string_Next.f none p5.2) fun p6 =>
  (if (!p5.1.2) = true then
  J0 D H k x0 x1 none p6.1.2.1 (!p6.1.2.2) p6.2 else
  J0 D H k x0 x1 none p6.1.2.1 false p6.2)))))))
theorem snd {D : Dp} {H : Hd} {k : Nat} {x0 : (List UInt8)} {x1 : Int} {S : HS} (hD : DSound Try.prog base W0 D) (hH : HSound Try.prog base W0 β0 H)  {p : (Bool) × HS} (h : f D H k x0 x1 S = some p) : HCall Try.prog base W0 β0 5 [(.str x0), (.int .i64 x1)] S (fun v S1 => v = (.bool p.1) ∧ S1 = p.2) := by
  unfold f at h
  refine HCall.of_run at_.at_ body ?_
  show HRun Try.prog base W0 β0 5 none [.code c0] ⟨[(.str x0), (.int .i64 x1), .tup [], .tup [], .tup [], .tup [], .tup [], .tup [], .tup [], .tup [], .tup [], .tup [], .tup [], .tup [], .tup [], .tup [], .tup [], .tup [], .tup [], .tup [], .tup [], .tup [], .tup [], .tup [], .tup [], .tup [], .tup [], .tup [], .tup [], .tup [], .tup [], .tup [], .tup [], .tup [], .tup [], .tup [], .tup [], .tup [], .tup [], .tup [], .tup [], .tup [], .tup [], .tup [], .tup [], .tup [], .tup [], .tup [], .tup [], .tup [], .tup [], .tup [], .tup [], .tup [], .tup [], .tup [], .tup [], .tup [], .tup [], .tup [], .tup [], .tup [], .tup [], .tup [], .tup []], []⟩ S _
  refine q_seq e0 ?_
  refine q_region e1 rfl ?_
  refine q_op (dst := some 4) rfl (fun _ ho => ok_assign ho (.bool _)) ?_
  refine hr_region_end ?_
  try dsimp only [HAct.put, List.set_cons_zero, List.set_cons_succ]
  refine q_seq e2 ?_
  refine q_seq e3 ?_
  refine q_region e4 rfl ?_
  obtain ⟨p1, hp1, h⟩ := bindo h
  refine q_call (dst := some 11) rfl (.func _) Evs.nil (HInv.static rollcalllaw09_awake.at_ rollcalllaw09_awake.body (rollcalllaw09_awake.snd hD hH hp1)) ?_
  rintro _ _ ⟨rfl, rfl⟩
  refine q_op (dst := some 12) rfl (fun _ ho => ok_not ho (.tmp rfl)) ?_
  refine hr_region_end ?_
  try dsimp only [HAct.put, List.set_cons_zero, List.set_cons_succ]
  rcases ifc h with ⟨hc2, h⟩ | ⟨hc2, h⟩
  · refine q_cond_t e5 (.tmp rfl) hc2 ?_
    refine q_seq e6 ?_
    refine q_region e7 rfl ?_
    refine q_op (dst := some 4) rfl (fun _ ho => ok_assign ho (.bool _)) ?_
    refine hr_region_end ?_
    try dsimp only [HAct.put, List.set_cons_zero, List.set_cons_succ]
    cases h
    exact q_ret e8 at_.at_ rfl (res1 rfl rfl) ⟨rfl, rfl⟩
  · refine q_cond_f e5 (.tmp rfl) (bfalse hc2) ?_
    refine q_skipc e9 ?_
    refine q_seq e10 ?_
    refine q_seq e11 ?_
    refine q_region e12 rfl ?_
    refine q_op (dst := some 13) rfl (fun _ ho => ok_move ho (.tmp rfl)) ?_
    refine q_op (dst := some 14) rfl (fun _ ho => ok_len_str ho rfl tu9 (.tmp rfl)) ?_
    refine q_op (dst := some 15) rfl (fun _ ho => ok_ibin ho (.tmp rfl) (.int _ _) rfl) ?_
    refine hr_region_end ?_
    try dsimp only [HAct.put, List.set_cons_zero, List.set_cons_succ]
    rcases ifc h with ⟨hc3, h⟩ | ⟨hc3, h⟩
    · refine q_cond_t e13 (.tmp rfl) (decide_eq_true hc3) ?_
      refine q_seq e14 ?_
      refine q_region e15 rfl ?_
      refine q_op (dst := some 4) rfl (fun _ ho => ok_assign ho (.bool _)) ?_
      refine hr_region_end ?_
      try dsimp only [HAct.put, List.set_cons_zero, List.set_cons_succ]
      cases h
      exact q_ret e16 at_.at_ rfl (res1 rfl rfl) ⟨rfl, rfl⟩
    · refine q_cond_f e13 (.tmp rfl) (decide_eq_false hc3) ?_
      refine q_skipc e17 ?_
      refine q_seq e18 ?_
      refine q_region e19 rfl ?_
      refine q_op (dst := some 5) rfl (fun _ ho => ok_assign ho (.const fun _ => .ptrNil)) ?_
      refine hr_region_end ?_
      try dsimp only [HAct.put, List.set_cons_zero, List.set_cons_succ]
      refine q_seq e20 ?_
      refine q_region e21 rfl ?_
      refine q_op (dst := some 16) rfl (fun _ ho => ok_move ho (.tmp rfl)) ?_
      refine q_op (dst := some 17) rfl (fun _ ho => ok_move ho (.tmp rfl)) ?_
      refine q_op (dst := some 18) rfl (fun _ ho => ok_move ho (.tmp rfl)) ?_
      obtain ⟨p4, hp4, h⟩ := bindo h
      refine q_call (dst := some 19) rfl (.func _) (.cons (.tmp rfl) (.cons (.tmp rfl) (.cons (.tmp rfl) Evs.nil))) (HInv.static timer_Table_string_Set.at_ timer_Table_string_Set.body (timer_Table_string_Set.snd hD hH hp4)) ?_
      rintro _ _ ⟨rfl, rfl⟩
      refine hr_region_end ?_
      try dsimp only [HAct.put, List.set_cons_zero, List.set_cons_succ]
      refine q_seq e22 ?_
      refine q_region e23 rfl ?_
      refine q_op (dst := some 21) rfl (fun _ ho => ok_move ho (.tmp rfl)) ?_
      refine q_op (dst := some 22) rfl (fun _ ho => ok_move ho (.tmp rfl)) ?_
      obtain ⟨p5, hp5, h⟩ := bindo h
      refine q_call (dst := some 23) rfl (.func _) (.cons (.tmp rfl) (.cons (.tmp rfl) Evs.nil)) (HInv.static timer_Table_string_At.at_ timer_Table_string_At.body (timer_Table_string_At.snd  hp5)) ?_
      rintro _ _ ⟨rfl, rfl⟩
      refine q_op (dst := some 20) rfl (fun _ ho => ok_move ho (.tmp rfl)) ?_
      try dsimp only [HAct.put, List.set_cons_zero, List.set_cons_succ]
      refine q_op (dst := some 24) rfl (fun _ ho => ok_extract ho (.tmp rfl) rfl) ?_
      refine q_op (dst := some 25) rfl (fun _ ho => ok_extract ho (.tmp rfl) rfl) ?_
      refine q_op (dst := some 6) rfl (fun _ ho => ok_assign ho (.tmp rfl)) ?_
      refine q_op (dst := some 7) rfl (fun _ ho => ok_assign ho (.tmp rfl)) ?_
      refine hr_region_end ?_
      try dsimp only [HAct.put, List.set_cons_zero, List.set_cons_succ]
      refine q_seq e24 ?_
      refine q_region e25 rfl ?_
      refine q_op (dst := some 27) rfl (fun _ ho => ok_move ho (.tmp rfl)) ?_
      obtain ⟨p6, hp6, h⟩ := bindo h
      refine q_call (dst := some 28) rfl (.func _) (.cons (.tmp rfl) Evs.nil) (HInv.static timer_Table_string_Next.at_ timer_Table_string_Next.body (timer_Table_string_Next.snd  hp6)) ?_
      rintro _ _ ⟨rfl, rfl⟩
      refine q_op (dst := some 26) rfl (fun _ ho => ok_move ho (.tmp rfl)) ?_
      refine q_op (dst := some 29) rfl (fun _ ho => ok_extract ho (.tmp rfl) rfl) ?_
      try dsimp only [HAct.put, List.set_cons_zero, List.set_cons_succ]
      refine q_op (dst := some 30) rfl (fun _ ho => ok_extract ho (.tmp rfl) rfl) ?_
      refine q_op (dst := some 31) rfl (fun _ ho => ok_extract ho (.tmp rfl) rfl) ?_
      refine q_op (dst := some 8) rfl (fun _ ho => ok_assign ho (.tmp rfl)) ?_
      refine q_op (dst := some 9) rfl (fun _ ho => ok_assign ho (.tmp rfl)) ?_
      try dsimp only [HAct.put, List.set_cons_zero, List.set_cons_succ]
      refine q_op (dst := some 10) rfl (fun _ ho => ok_assign ho (.tmp rfl)) ?_
      refine hr_region_end ?_
      try dsimp only [HAct.put, List.set_cons_zero, List.set_cons_succ]
      refine q_seq e26 ?_
      refine q_region e27 rfl ?_
      refine q_op (dst := some 32) rfl (fun _ ho => ok_move ho (.tmp rfl)) ?_
      refine q_op (dst := some 33) rfl (fun _ ho => ok_not ho (.tmp rfl)) ?_
      refine q_op (dst := some 34) rfl (fun _ ho => ok_move ho (.tmp rfl)) ?_
      rcases ifc h with ⟨hc7, h⟩ | ⟨hc7, h⟩
      · refine q_op_g (t := 34) (dst := some 35) rfl rfl rfl hc7 (fun _ ho => ok_move ho (.tmp rfl)) ?_
        try dsimp only [HAct.put, List.set_cons_zero, List.set_cons_succ]
        refine q_op_g (t := 34) (dst := some 36) rfl rfl rfl hc7 (fun _ ho => ok_not ho (.tmp rfl)) ?_
        refine q_op (dst := some 37) rfl (fun _ ho => ok_pick_tt ho (.tmp rfl) hc7 (.tmp rfl)) ?_
        try dsimp only [HAct.put, List.set_cons_zero, List.set_cons_succ]
        exact J0_snd hD hH h
      · refine q_skip (dst := some 35) (t := 34) rfl rfl rfl (bfalse hc7) ?_
        try dsimp only [HAct.put, List.set_cons_zero, List.set_cons_succ]
        refine q_skip (dst := some 36) (t := 34) rfl rfl rfl (bfalse hc7) ?_
        refine q_op (dst := some 37) rfl (fun _ ho => ok_pick_ff ho (.tmp rfl) (bfalse hc7) (.bool _)) ?_
        try dsimp only [HAct.put, List.set_cons_zero, List.set_cons_succ]
        exact J0_snd hD hH h
end
end rollcalllaw09_TimerNone
section
variable {base : Nat} {W0 : World} {β0 : Bt}
def call_26 (D : Dp) (H : Hd) (k : Nat) (vs : List HV) (S : HS) : Option (HV × HS) :=
  Option.bind (args2 vs) fun a =>
  Option.bind (dA2 a.1) fun p0 =>
  Option.bind (dS p0.1) fun p1 =>
  Option.bind (dI .i64 p0.2) fun p2 =>
  Option.bind (dA2 a.2) fun p3 =>
  Option.bind (dS p3.1) fun p4 =>
  Option.bind (dI .i64 p3.2) fun p5 =>
  Option.bind (timer_compare_string.f k p1 p2 p4 p5 S) fun q =>
  some ((.int .i64 q.1), q.2)
theorem call_26_snd {D : Dp} {H : Hd} {k : Nat} (hD : DSound Try.prog base W0 D) (hH : HSound Try.prog base W0 β0 H) {vs : List HV} {S : HS} {p : HV × HS} (h : call_26 D H k vs S = some p) : HCall Try.prog base W0 β0 26 vs S (fun v1 S1 => v1 = p.1 ∧ S1 = p.2) := by
  unfold call_26 at h
  obtain ⟨a, ha, h⟩ := bindo h
  obtain ⟨p0, hp0, h⟩ := bindo h
  obtain ⟨p1, hp1, h⟩ := bindo h
  obtain ⟨p2, hp2, h⟩ := bindo h
  obtain ⟨p3, hp3, h⟩ := bindo h
  obtain ⟨p4, hp4, h⟩ := bindo h
  obtain ⟨p5, hp5, h⟩ := bindo h
  obtain ⟨q, hq, h⟩ := bindo h
  rw [args2_out ha, dA2_out hp0, dS_out hp1, dI_out hp2, dA2_out hp3, dS_out hp4, dI_out hp5]
  cases h
  exact timer_compare_string.snd hq
def call_40 (D : Dp) (H : Hd) (k : Nat) (vs : List HV) (S : HS) : Option (HV × HS) :=
  Option.bind (args2 vs) fun a =>
  Option.bind (dF a.1) fun p0 =>
  Option.bind (dP a.2) fun p1 =>
  Option.bind (timer_Table_string_Due_1.f D H k p0 p1 S) fun q =>
  some (.tup [], q.2)
theorem call_40_snd {D : Dp} {H : Hd} {k : Nat} (hD : DSound Try.prog base W0 D) (hH : HSound Try.prog base W0 β0 H) {vs : List HV} {S : HS} {p : HV × HS} (h : call_40 D H k vs S = some p) : HCall Try.prog base W0 β0 40 vs S (fun v1 S1 => v1 = p.1 ∧ S1 = p.2) := by
  unfold call_40 at h
  obtain ⟨a, ha, h⟩ := bindo h
  obtain ⟨p0, hp0, h⟩ := bindo h
  obtain ⟨p1, hp1, h⟩ := bindo h
  obtain ⟨q, hq, h⟩ := bindo h
  rw [args2_out ha, dF_out hp0, dP_out hp1]
  cases h
  exact timer_Table_string_Due_1.snd hD hH hq
def disp (k : Nat) : Nat → Dp
  | 0 => fun _ _ _ _ => none
  | n + 1 => fun H fv vs S => match fv with
    | .fn (.yield l) [] [] => Option.bind (H l) fun r => r vs S
    | .fn (.func f) xs ys => if f = 26 then call_26 (disp k n) H k (xs ++ vs ++ ys) S else if f = 40 then call_40 (disp k n) H k (xs ++ vs ++ ys) S else none
    | _ => none
theorem disp_func {k n : Nat} {H : Hd} {f : Nat} {xs ys vs : List HV} {S : HS} : disp k (n + 1) H (.fn (.func f) xs ys) vs S = (if f = 26 then call_26 (disp k n) H k (xs ++ vs ++ ys) S else if f = 40 then call_40 (disp k n) H k (xs ++ vs ++ ys) S else none) := rfl
theorem disp_yield {k n : Nat} {H : Hd} {l : Nat} {vs : List HV} {S : HS} : disp k (n + 1) H (.fn (.yield l) [] []) vs S = Option.bind (H l) fun r => r vs S := rfl
theorem disp_snd {k : Nat} : ∀ n, DSound Try.prog base W0 (disp k n) := by
  intro n
  induction n with
  | zero => intro _ _ _ _ _ _ _ _ h; cases h
  | succ n ih =>
    intro β0 H hH fv vs S v S' h
    unfold disp at h
    split at h
    · obtain ⟨r, hr, h⟩ := bindo h
      exact hH _ _ hr _ _ _ _ h
    · skip
      rcases ifc h with ⟨hf, h⟩ | ⟨hf, h⟩
      · subst hf; exact HInv.func timer_compare_string.at_ timer_compare_string.body (call_26_snd (k := k) ih hH h)
      rcases ifc h with ⟨hf, h⟩ | ⟨hf, h⟩
      · subst hf; exact HInv.func timer_Table_string_Due_1.at_ timer_Table_string_Due_1.body (call_40_snd (k := k) ih hH h)
      cases h
    · cases h
end
end Go.Proofs.Ytlfdfkldolgkoaa.X
