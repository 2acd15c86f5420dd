/- Functions of the program, each as a Lean function over the layer HL: a call answers what the Lean function answers, where it answers. -/
import Derived.Test.YtlfdfkldolgkoaaProg
import Derived.Test.YtlfdfkldolgkoaaTmDue2
namespace Go.Proofs.Ytlfdfkldolgkoaa.X
open Go.Proofs.Ytlfdfkldolgkoaa.HL
set_option linter.unusedVariables false
set_option linter.unusedSimpArgs false
set_option maxRecDepth 20000
set_option maxHeartbeats 4000000
namespace timer_Table_int_Due
abbrev id : Nat := 35
theorem at_ : FnAt Try.prog 35 Try.f35 := ⟨Try.func35, by kernel_rfl⟩
noncomputable def c0 : Code := (Try.f35.body).getD .skip
noncomputable def c1 : Code := match c0 with | .seq x _ => x | _ => .skip
noncomputable def c2 : Code := match c0 with | .seq _ x => x | _ => .skip
noncomputable def c3 : Code := match c2 with | .seq x _ => x | _ => .skip
noncomputable def c4 : Code := match c2 with | .seq _ x => x | _ => .skip
noncomputable def c5 : Code := match c4 with | .seq x _ => x | _ => .skip
noncomputable def c6 : Code := match c5 with | .seq x _ => x | _ => .skip
noncomputable def c7 : Code := match c5 with | .seq _ x => x | _ => .skip
noncomputable def c8 : Code := match c7 with | .cond _ x _ => x | _ => .skip
noncomputable def c9 : Code := match c8 with | .seq x _ => x | _ => .skip
noncomputable def c10 : Code := match c8 with | .seq _ x => x | _ => .skip
noncomputable def c11 : Code := match c10 with | .seq x _ => x | _ => .skip
noncomputable def c12 : Code := match c11 with | .block _ x => x | _ => .skip
noncomputable def c13 : Code := match c12 with | .loop x => x | _ => .skip
noncomputable def c14 : Code := match c13 with | .seq x _ => x | _ => .skip
noncomputable def c15 : Code := match c14 with | .seq x _ => x | _ => .skip
noncomputable def c16 : Code := match c14 with | .seq _ x => x | _ => .skip
noncomputable def c17 : Code := match c16 with | .cond _ x _ => x | _ => .skip
noncomputable def c18 : Code := match c16 with | .cond _ _ x => x | _ => .skip
noncomputable def c19 : Code := match c13 with | .seq _ x => x | _ => .skip
noncomputable def c20 : Code := match c19 with | .block _ x => x | _ => .skip
noncomputable def c21 : Code := match c10 with | .seq _ x => x | _ => .skip
noncomputable def c22 : Code := match c7 with | .cond _ _ x => x | _ => .skip
noncomputable def c23 : Code := match c4 with | .seq _ x => x | _ => .skip
noncomputable def c24 : Code := match c23 with | .seq x _ => x | _ => .skip
noncomputable def c25 : Code := match c23 with | .seq _ x => x | _ => .skip
theorem e0 : c0 = .seq c1 c2 := by kernel_rfl
noncomputable def r1 : Array Oper := match c1 with | .region _ x _ => x | _ => #[]
theorem e1 : c1 = .region 0 r1 false := by kernel_rfl
theorem e2 : c2 = .seq c3 c4 := by kernel_rfl
noncomputable def r3 : Array Oper := match c3 with | .region _ x _ => x | _ => #[]
theorem e3 : c3 = .region 1 r3 false := by kernel_rfl
theorem e4 : c4 = .seq c5 c23 := by kernel_rfl
theorem e5 : c5 = .seq c6 c7 := by kernel_rfl
noncomputable def r6 : Array Oper := match c6 with | .region _ x _ => x | _ => #[]
theorem e6 : c6 = .region 2 r6 false := by kernel_rfl
theorem e7 : c7 = .cond (.tmp 8) c8 c22 := by kernel_rfl
theorem e8 : c8 = .seq c9 c10 := by kernel_rfl
noncomputable def r9 : Array Oper := match c9 with | .region _ x _ => x | _ => #[]
theorem e9 : c9 = .region 3 r9 false := by kernel_rfl
theorem e10 : c10 = .seq c11 c21 := by kernel_rfl
theorem e11 : c11 = .block 0 c12 := by kernel_rfl
theorem e12 : c12 = .loop c13 := by kernel_rfl
theorem e13 : c13 = .seq c14 c19 := by kernel_rfl
theorem e14 : c14 = .seq c15 c16 := by kernel_rfl
noncomputable def r15 : Array Oper := match c15 with | .region _ x _ => x | _ => #[]
theorem e15 : c15 = .region 4 r15 false := by kernel_rfl
theorem e16 : c16 = .cond (.tmp 27) c17 c18 := by kernel_rfl
theorem e17 : c17 = .skip := by kernel_rfl
theorem e18 : c18 = .exit 0 := by kernel_rfl
theorem e19 : c19 = .block 1 c20 := by kernel_rfl
noncomputable def r20 : Array Oper := match c20 with | .region _ x _ => x | _ => #[]
theorem e20 : c20 = .region 5 r20 false := by kernel_rfl
noncomputable def r21 : Array Oper := match c21 with | .region _ x _ => x | _ => #[]
theorem e21 : c21 = .region 6 r21 false := by kernel_rfl
theorem e22 : c22 = .skip := by kernel_rfl
theorem e23 : c23 = .seq c24 c25 := by kernel_rfl
noncomputable def r24 : Array Oper := match c24 with | .region _ x _ => x | _ => #[]
theorem e24 : c24 = .region 7 r24 false := by kernel_rfl
theorem e25 : c25 = .ret := by kernel_rfl
theorem body : Try.f35.body = some c0 := by kernel_rfl
section
variable {base : Nat} {W0 : World} {β0 : Bt}
def J2 (k : Nat) (y5 : (Option HA)) (S : HS) : Option ((HV) × HS) :=
  some ((HV.fn (.func 48) [] [(.ptr y5)]), S)
theorem J2_snd {k : Nat}  {y5 : (Option HA)} {S : HS} {p : (HV) × HS} {g0 g1 g2 g3 g4 g6 g7 g8 g9 g10 g11 g12 g13 g14 g15 g16 g17 g18 g19 g20 g21 g22 g23 g24 g25 g26 g27 g28 g29 g30 g31 g32 g33 g34 g35 g36 g37 : HV} (h : J2 k y5 S = some p) : HRun Try.prog base W0 β0 35 none [.code c23] ⟨[g0, g1, g2, g3, g4, (.ptr y5), g6, g7, g8, g9, g10, g11, g12, g13, g14, g15, g16, g17, g18, g19, g20, g21, g22, g23, g24, g25, g26, g27, g28, g29, g30, g31, g32, g33, g34, g35, g36, g37], []⟩ S (fun v S1 => v = p.1 ∧ S1 = p.2) := by
  unfold J2 at h
  refine q_seq e23 ?_
  refine q_region e24 rfl ?_
  refine q_op (dst := some 37) rfl (fun _ ho => ok_makeFunc ho Evs.nil (.cons (.tmp rfl) Evs.nil)) ?_
  refine q_op (dst := some 4) rfl (fun _ ho => ok_assign ho (.tmp rfl)) ?_
  refine hr_region_end ?_
  try dsimp only [HAct.put, List.set_cons_zero, List.set_cons_succ]
  cases h
  exact q_ret e25 at_.at_ rfl (res1 rfl rfl) ⟨rfl, rfl⟩
def J1 (k : Nat) (rec0 : (Option HA) → Int → (Option HA) → Int → HS → Option ((HV) × HS)) (y0 : (Option HA)) (y1 : Int) (y5 : (Option HA)) (y6 : Int) (y27 : Bool) (S : HS) : Option ((HV) × HS) :=
  (if y27 = true then
  rec0 y0 y1 y5 (w64 (y6 + 1)) S else
  (Option.bind (y0) fun p11 =>
  (Option.bind (HS.ldSl S (HA.fld p11 0)) fun p12 =>
  (Option.bind (HS.cut S p12 0 y6 2) fun p13 =>
  (Option.bind (slices_Clone_timer_item_int_timer_item_int.f p13 S) fun p14 =>
  (Option.bind (y5) fun p15 =>
  (Option.bind (HS.sets p14.2 p15 [(Sl.hv p14.1)]) fun p16 =>
  J2 k y5 p16)))))))
theorem J1_snd {k : Nat} {rec0 : (Option HA) → Int → (Option HA) → Int → HS → Option ((HV) × HS)} (hrec0 : ∀ ⦃y0 : (Option HA)⦄ ⦃y1 : Int⦄ ⦃y5 : (Option HA)⦄ ⦃y6 : Int⦄ ⦃S : HS⦄ ⦃p : (HV) × HS⦄ ⦃g2 g3 g4 g7 g8 g9 g10 g11 g12 g13 g14 g15 g16 g17 g18 g19 g20 g21 g22 g23 g24 g25 g26 g27 g28 g29 g30 g31 g32 g33 g34 g35 g36 g37 : HV⦄, rec0 y0 y1 y5 y6 S = some p → HRun Try.prog base W0 β0 35 none [.inLoop c13, .inBlock 0, .code c21, .code c23] ⟨[(.ptr y0), (.int .i64 y1), g2, g3, g4, (.ptr y5), (.int .i64 y6), g7, g8, g9, g10, g11, g12, g13, g14, g15, g16, g17, g18, g19, g20, g21, g22, g23, g24, g25, g26, g27, g28, g29, g30, g31, g32, g33, g34, g35, g36, g37], []⟩ S (fun v S1 => v = p.1 ∧ S1 = p.2)) {y0 : (Option HA)} {y1 : Int} {y5 : (Option HA)} {y6 : Int} {y27 : Bool} {S : HS} {p : (HV) × HS} {g2 g3 g4 g7 g8 g9 g10 g11 g12 g13 g14 g15 g16 g17 g18 g19 g20 g21 g22 g23 g24 g25 g26 g28 g29 g30 g31 g32 g33 g34 g35 g36 g37 : HV} (h : J1 k rec0 y0 y1 y5 y6 y27 S = some p) : HRun Try.prog base W0 β0 35 none [.code c16, .code c19, .inLoop c13, .inBlock 0, .code c21, .code c23] ⟨[(.ptr y0), (.int .i64 y1), g2, g3, g4, (.ptr y5), (.int .i64 y6), g7, g8, g9, g10, g11, g12, g13, g14, g15, g16, g17, g18, g19, g20, g21, g22, g23, g24, g25, g26, (.bool y27), g28, g29, g30, g31, g32, g33, g34, g35, g36, g37], []⟩ S (fun v S1 => v = p.1 ∧ S1 = p.2) := by
  unfold J1 at h
  rcases ifc h with ⟨hc10, h⟩ | ⟨hc10, h⟩
  · refine q_cond_t e16 (.tmp rfl) hc10 ?_
    refine q_skipc e17 ?_
    refine q_block e19 ?_
    refine q_region e20 rfl ?_
    refine q_op (dst := some 28) rfl (fun _ ho => ok_move ho (.tmp rfl)) ?_
    refine q_op (dst := some 29) rfl (fun _ ho => ok_ibin ho (.tmp rfl) (.int _ _) rfl) ?_
    refine q_op (dst := some 6) rfl (fun _ ho => ok_assign ho (.tmp rfl)) ?_
    refine hr_region_end ?_
    try dsimp only [HAct.put, List.set_cons_zero, List.set_cons_succ]
    refine hr_inBlock ?_
    try dsimp only [HAct.put, List.set_cons_zero, List.set_cons_succ]
    exact hrec0 h
  · refine q_cond_f e16 (.tmp rfl) (bfalse hc10) ?_
    refine q_exit e18 rfl ?_
    refine q_region e21 rfl ?_
    refine q_op (dst := some 30) rfl (fun _ ho => ok_move ho (.tmp rfl)) ?_
    obtain ⟨p11, hp11, h⟩ := bindo h
    refine q_op (dst := some 31) rfl (fun _ ho => ok_nilCheck_p ho (.tmp rfl) hp11) ?_
    refine q_op (dst := some 32) rfl (fun _ ho => ok_fieldAddr_s ho fi74_0 (by decide) (.tmp rfl) rfl) ?_
    obtain ⟨p12, hp12, h⟩ := bindo h
    refine q_op (dst := some 33) rfl (fun _ ho => ok_load_s ho sc72 (.tmp rfl) rfl (ldSl_out hp12)) ?_
    try dsimp only [HAct.put, List.set_cons_zero, List.set_cons_succ]
    refine q_op (dst := some 34) rfl (fun _ ho => ok_move ho (.tmp rfl)) ?_
    obtain ⟨p13, hp13, h⟩ := bindo h
    refine q_op (dst := some 35) rfl (fun _ ho => ok_slice (kl := .i64) (kh := .i64) (s := p12) (l := 0) (h := y6) ho tu72 si78 (.tmp rfl) (.inl ⟨rfl, rfl⟩) (.inr ⟨_, rfl, (.tmp rfl)⟩) hp13) ?_
    obtain ⟨p14, hp14, h⟩ := bindo h
    refine q_call (dst := some 36) rfl (.func _) (.cons (.tmp rfl) Evs.nil) (HInv.static slices_Clone_timer_item_int_timer_item_int.at_ slices_Clone_timer_item_int_timer_item_int.body (slices_Clone_timer_item_int_timer_item_int.snd  hp14)) ?_
    rintro _ _ ⟨rfl, rfl⟩
    obtain ⟨p15, hp15, h⟩ := bindo h
    obtain ⟨p16, hp16, h⟩ := bindo h
    refine q_op (dst := none) rfl (fun _ ho => ok_store_s (v := (Sl.hv p14.1)) ho sz72 (.tmp rfl) hp15 (.tmp rfl) rfl hp16) ?_
    refine hr_region_end ?_
    try dsimp only [HAct.put, List.set_cons_zero, List.set_cons_succ]
    try dsimp only [HAct.put, List.set_cons_zero, List.set_cons_succ]
    exact J2_snd  h
def L0 (k : Nat) : Nat → (Option HA) → Int → (Option HA) → Int → HS → Option ((HV) × HS)
  | 0, _, _, _, _, _ => none
  | n + 1, y0, y1, y5, y6, S =>
    (Option.bind (y0) fun p3 =>
    (Option.bind (HS.ldSl S (HA.fld p3 0)) fun p4 =>
    (if y6 < (Sl.len p4 : Int) then
    (Option.bind (y0) fun p6 =>
    (Option.bind (HS.ldSl S (HA.fld p6 0)) fun p7 =>
    (Option.bind (HS.idx S p7 y6 2) fun p8 =>
    (Option.bind (HS.ldI S .i64 (HA.fld p8 1)) fun p9 =>
    J1 k (L0 k n) y0 y1 y5 y6 (decide (p9 ≤ y1)) S)))) else
    J1 k (L0 k n) y0 y1 y5 y6 false S)))
theorem L0_snd {k : Nat}  : ∀ {n : Nat} ⦃y0 : (Option HA)⦄ ⦃y1 : Int⦄ ⦃y5 : (Option HA)⦄ ⦃y6 : Int⦄ ⦃S : HS⦄ ⦃p : (HV) × HS⦄ ⦃g2 g3 g4 g7 g8 g9 g10 g11 g12 g13 g14 g15 g16 g17 g18 g19 g20 g21 g22 g23 g24 g25 g26 g27 g28 g29 g30 g31 g32 g33 g34 g35 g36 g37 : HV⦄, L0 k n y0 y1 y5 y6 S = some p → HRun Try.prog base W0 β0 35 none [.inLoop c13, .inBlock 0, .code c21, .code c23] ⟨[(.ptr y0), (.int .i64 y1), g2, g3, g4, (.ptr y5), (.int .i64 y6), g7, g8, g9, g10, g11, g12, g13, g14, g15, g16, g17, g18, g19, g20, g21, g22, g23, g24, g25, g26, g27, g28, g29, g30, g31, g32, g33, g34, g35, g36, g37], []⟩ S (fun v S1 => v = p.1 ∧ S1 = p.2) := by
  intro n
  induction n with
  | zero => intro _ _ _ _ _ _ _ _ _ _ _ _ _ _ _ _ _ _ _ _ _ _ _ _ _ _ _ _ _ _ _ _ _ _ _ _ _ _ _ _ h; cases h
  | succ n ih =>
    intro y0 y1 y5 y6 S p g2 g3 g4 g7 g8 g9 g10 g11 g12 g13 g14 g15 g16 g17 g18 g19 g20 g21 g22 g23 g24 g25 g26 g27 g28 g29 g30 g31 g32 g33 g34 g35 g36 g37 h
    simp only [L0] at h
    refine hr_inLoop ?_
    refine q_seq e13 ?_
    refine q_seq e14 ?_
    refine q_region e15 rfl ?_
    refine q_op (dst := some 9) rfl (fun _ ho => ok_move ho (.tmp rfl)) ?_
    refine q_op (dst := some 10) rfl (fun _ ho => ok_move ho (.tmp rfl)) ?_
    obtain ⟨p3, hp3, h⟩ := bindo h
    refine q_op (dst := some 11) rfl (fun _ ho => ok_nilCheck_p ho (.tmp rfl) hp3) ?_
    refine q_op (dst := some 12) rfl (fun _ ho => ok_fieldAddr_s ho fi74_0 (by decide) (.tmp rfl) rfl) ?_
    try dsimp only [HAct.put, List.set_cons_zero, List.set_cons_succ]
    obtain ⟨p4, hp4, h⟩ := bindo h
    refine q_op (dst := some 13) rfl (fun _ ho => ok_load_s ho sc72 (.tmp rfl) rfl (ldSl_out hp4)) ?_
    refine q_op (dst := some 14) rfl (fun _ ho => ok_len_sl (q := Sl.a p4) (n := Sl.len p4) (z := Sl.cap p4) ho rfl tu72 (.tmp rfl)) ?_
    refine q_op (dst := some 15) rfl (fun _ ho => ok_ibin ho (.tmp rfl) (.tmp rfl) rfl) ?_
    refine q_op (dst := some 16) rfl (fun _ ho => ok_move ho (.tmp rfl)) ?_
    try dsimp only [HAct.put, List.set_cons_zero, List.set_cons_succ]
    rcases ifc h with ⟨hc5, h⟩ | ⟨hc5, h⟩
    · refine q_op_g (t := 16) (dst := some 17) rfl rfl rfl (decide_eq_true hc5) (fun _ ho => ok_move ho (.tmp rfl)) ?_
      obtain ⟨p6, hp6, h⟩ := bindo h
      refine q_op_g (t := 16) (dst := some 18) rfl rfl rfl (decide_eq_true hc5) (fun _ ho => ok_nilCheck_p ho (.tmp rfl) hp6) ?_
      refine q_op_g (t := 16) (dst := some 19) rfl rfl rfl (decide_eq_true hc5) (fun _ ho => ok_fieldAddr_s ho fi74_0 (by decide) (.tmp rfl) rfl) ?_
      obtain ⟨p7, hp7, h⟩ := bindo h
      refine q_op_g (t := 16) (dst := some 20) rfl rfl rfl (decide_eq_true hc5) (fun _ ho => ok_load_s ho sc72 (.tmp rfl) rfl (ldSl_out hp7)) ?_
      try dsimp only [HAct.put, List.set_cons_zero, List.set_cons_succ]
      refine q_op_g (t := 16) (dst := some 21) rfl rfl rfl (decide_eq_true hc5) (fun _ ho => ok_move ho (.tmp rfl)) ?_
      obtain ⟨p8, hp8, h⟩ := bindo h
      refine q_op_g (t := 16) (dst := some 22) rfl rfl rfl (decide_eq_true hc5) (fun _ ho => ok_indexAddr (s := p7) ho tu72 sz78 (.tmp rfl) (.tmp rfl) hp8) ?_
      refine q_op_g (t := 16) (dst := some 23) rfl rfl rfl (decide_eq_true hc5) (fun _ ho => ok_fieldAddr_s ho fi78_1 (by decide) (.tmp rfl) rfl) ?_
      obtain ⟨p9, hp9, h⟩ := bindo h
      refine q_op_g (t := 16) (dst := some 24) rfl rfl rfl (decide_eq_true hc5) (fun _ ho => ok_load_s ho sc3 (.tmp rfl) rfl (ldI_out hp9)) ?_
      try dsimp only [HAct.put, List.set_cons_zero, List.set_cons_succ]
      refine q_op_g (t := 16) (dst := some 25) rfl rfl rfl (decide_eq_true hc5) (fun _ ho => ok_move ho (.tmp rfl)) ?_
      refine q_op_g (t := 16) (dst := some 26) rfl rfl rfl (decide_eq_true hc5) (fun _ ho => ok_ibin ho (.tmp rfl) (.tmp rfl) rfl) ?_
      refine q_op (dst := some 27) rfl (fun _ ho => ok_pick_tt ho (.tmp rfl) (decide_eq_true hc5) (.tmp rfl)) ?_
      refine hr_region_end ?_
      try dsimp only [HAct.put, List.set_cons_zero, List.set_cons_succ]
      try dsimp only [HAct.put, List.set_cons_zero, List.set_cons_succ]
      exact J1_snd ih h
    · refine q_skip (dst := some 17) (t := 16) rfl rfl rfl (decide_eq_false hc5) ?_
      refine q_skip (dst := some 18) (t := 16) rfl rfl rfl (decide_eq_false hc5) ?_
      refine q_skip (dst := some 19) (t := 16) rfl rfl rfl (decide_eq_false hc5) ?_
      refine q_skip (dst := some 20) (t := 16) rfl rfl rfl (decide_eq_false hc5) ?_
      try dsimp only [HAct.put, List.set_cons_zero, List.set_cons_succ]
      refine q_skip (dst := some 21) (t := 16) rfl rfl rfl (decide_eq_false hc5) ?_
      refine q_skip (dst := some 22) (t := 16) rfl rfl rfl (decide_eq_false hc5) ?_
      refine q_skip (dst := some 23) (t := 16) rfl rfl rfl (decide_eq_false hc5) ?_
      refine q_skip (dst := some 24) (t := 16) rfl rfl rfl (decide_eq_false hc5) ?_
      try dsimp only [HAct.put, List.set_cons_zero, List.set_cons_succ]
      refine q_skip (dst := some 25) (t := 16) rfl rfl rfl (decide_eq_false hc5) ?_
      refine q_skip (dst := some 26) (t := 16) rfl rfl rfl (decide_eq_false hc5) ?_
      refine q_op (dst := some 27) rfl (fun _ ho => ok_pick_ff ho (.tmp rfl) (decide_eq_false hc5) (.bool _)) ?_
      refine hr_region_end ?_
      try dsimp only [HAct.put, List.set_cons_zero, List.set_cons_succ]
      try dsimp only [HAct.put, List.set_cons_zero, List.set_cons_succ]
      exact J1_snd ih h
def f (k : Nat) (x0 : (Option HA)) (x1 : Int) (S : HS) : Option ((HV) × HS) :=
  (letv (HS.new S (.cells 1 [[(Sl.hv Sl.nil)]] true)) fun p1 =>
  (if (!Option.isNone x0) = true then
  L0 k k x0 x1 (some (HA.cell0 S.next)) 0 p1 else
  J2 k (some (HA.cell0 S.next)) p1))
theorem snd {k : Nat} {x0 : (Option HA)} {x1 : Int} {S : HS}  {p : (HV) × HS} (h : f k x0 x1 S = some p) : HCall Try.prog base W0 β0 35 [(.ptr x0), (.int .i64 x1)] S (fun v S1 => v = p.1 ∧ S1 = p.2) := by
  unfold f at h
  refine HCall.of_run at_.at_ body ?_
  show HRun Try.prog base W0 β0 35 none [.code c0] ⟨[(.ptr x0), (.int .i64 x1), .tup [], .tup [], .tup [], .tup [], .tup [], .tup [], .tup [], .tup [], .tup [], .tup [], .tup [], .tup [], .tup [], .tup [], .tup [], .tup [], .tup [], .tup [], .tup [], .tup [], .tup [], .tup [], .tup [], .tup [], .tup [], .tup [], .tup [], .tup [], .tup [], .tup [], .tup [], .tup [], .tup [], .tup [], .tup [], .tup []], []⟩ S _
  refine q_seq e0 ?_
  refine q_region e1 rfl ?_
  refine q_op (dst := some 4) rfl (fun _ ho => ok_assign ho (.const fun _ => .nilFn)) ?_
  refine hr_region_end ?_
  try dsimp only [HAct.put, List.set_cons_zero, List.set_cons_succ]
  refine q_seq e2 ?_
  refine q_region e3 rfl ?_
  obtain ⟨p1, hp1, h⟩ := leto h
  refine q_op (dst := some 5) rfl (fun _ ho => ok_alloc_e ho zi72 zr72 (by decide) rfl hp1) ?_
  refine hr_region_end ?_
  try dsimp only [HAct.put, List.set_cons_zero, List.set_cons_succ]
  refine q_seq e4 ?_
  refine q_seq e5 ?_
  refine q_region e6 rfl ?_
  refine q_op (dst := some 7) rfl (fun _ ho => ok_move ho (.tmp rfl)) ?_
  refine q_op (dst := some 8) rfl (fun _ ho => ok_nil_ptr ho tu49 (.tmp rfl) (.inr ⟨rfl, rfl⟩)) ?_
  refine hr_region_end ?_
  try dsimp only [HAct.put, List.set_cons_zero, List.set_cons_succ]
  rcases ifc h with ⟨hc2, h⟩ | ⟨hc2, h⟩
  · refine q_cond_t e7 (.tmp rfl) hc2 ?_
    refine q_seq e8 ?_
    refine q_region e9 rfl ?_
    refine q_op (dst := some 6) rfl (fun _ ho => ok_assign ho (.int _ _)) ?_
    refine hr_region_end ?_
    try dsimp only [HAct.put, List.set_cons_zero, List.set_cons_succ]
    refine q_seq e10 ?_
    refine q_block e11 ?_
    refine q_loop e12 ?_
    try dsimp only [HAct.put, List.set_cons_zero, List.set_cons_succ]
    exact L0_snd  h
  · refine q_cond_f e7 (.tmp rfl) (bfalse hc2) ?_
    refine q_skipc e22 ?_
    try dsimp only [HAct.put, List.set_cons_zero, List.set_cons_succ]
    exact J2_snd  h
end
end timer_Table_int_Due
namespace timer_Table_int_Take
abbrev id : Nat := 22
theorem at_ : FnAt Try.prog 22 Try.f22 := ⟨Try.func22, by kernel_rfl⟩
noncomputable def c0 : Code := (Try.f22.body).getD .skip
noncomputable def c1 : Code := match c0 with | .seq x _ => x | _ => .skip
noncomputable def c2 : Code := match c0 with | .seq _ x => x | _ => .skip
noncomputable def c3 : Code := match c2 with | .seq x _ => x | _ => .skip
noncomputable def c4 : Code := match c2 with | .seq _ x => x | _ => .skip
noncomputable def c5 : Code := match c4 with | .seq x _ => x | _ => .skip
noncomputable def c6 : Code := match c5 with | .seq x _ => x | _ => .skip
noncomputable def c7 : Code := match c5 with | .seq _ x => x | _ => .skip
noncomputable def c8 : Code := match c7 with | .block _ x => x | _ => .skip
noncomputable def c9 : Code := match c8 with | .rangeFunc _ _ x _ => x | _ => .skip
noncomputable def c10 : Code := match c8 with | .rangeFunc _ _ _ x => x | _ => .skip
noncomputable def c11 : Code := match c10 with | .block _ x => x | _ => .skip
noncomputable def c12 : Code := match c11 with | .seq x _ => x | _ => .skip
noncomputable def c13 : Code := match c11 with | .seq _ x => x | _ => .skip
noncomputable def c14 : Code := match c4 with | .seq _ x => x | _ => .skip
noncomputable def c15 : Code := match c14 with | .seq x _ => x | _ => .skip
noncomputable def c16 : Code := match c14 with | .seq _ x => x | _ => .skip
theorem e0 : c0 = .seq c1 c2 := by kernel_rfl
noncomputable def r1 : Array Oper := match c1 with | .region _ x _ => x | _ => #[]
theorem e1 : c1 = .region 0 r1 false := by kernel_rfl
theorem e2 : c2 = .seq c3 c4 := by kernel_rfl
noncomputable def r3 : Array Oper := match c3 with | .region _ x _ => x | _ => #[]
theorem e3 : c3 = .region 1 r3 false := by kernel_rfl
theorem e4 : c4 = .seq c5 c14 := by kernel_rfl
theorem e5 : c5 = .seq c6 c7 := by kernel_rfl
noncomputable def r6 : Array Oper := match c6 with | .region _ x _ => x | _ => #[]
theorem e6 : c6 = .region 2 r6 false := by kernel_rfl
theorem e7 : c7 = .block 0 c8 := by kernel_rfl
theorem e8 : c8 = .rangeFunc (.tmp 9) #[10, 11] c9 c10 := by kernel_rfl
noncomputable def r9 : Array Oper := match c9 with | .region _ x _ => x | _ => #[]
theorem e9 : c9 = .region 3 r9 false := by kernel_rfl
theorem e10 : c10 = .block 1 c11 := by kernel_rfl
theorem e11 : c11 = .seq c12 c13 := by kernel_rfl
noncomputable def r12 : Array Oper := match c12 with | .region _ x _ => x | _ => #[]
theorem e12 : c12 = .region 4 r12 false := by kernel_rfl
noncomputable def r13 : Array Oper := match c13 with | .region _ x _ => x | _ => #[]
theorem e13 : c13 = .region 5 r13 false := by kernel_rfl
theorem e14 : c14 = .seq c15 c16 := by kernel_rfl
noncomputable def r15 : Array Oper := match c15 with | .region _ x _ => x | _ => #[]
theorem e15 : c15 = .region 6 r15 false := by kernel_rfl
theorem e16 : c16 = .ret := by kernel_rfl
theorem body : Try.f22.body = some c0 := by kernel_rfl
section
variable {base : Nat} {W0 : World} {β0 : Bt}
def J0 (D : Dp) (H : Hd) (k : Nat) (l : Nat) (y2 : (Option HA)) (y5 : (Option HA)) (y10 : Int) (S : HS) : Option (HV × HS) :=
  (Option.bind (HS.begin_ S l) fun p5 =>
  (Option.bind (y5) fun p6 =>
  (Option.bind (HS.ldSl p5 p6) fun p7 =>
  (letv (HS.lit p5 [[(.int .i64 y10)]] 1) fun p8 =>
  (Option.bind (HS.rows (p8.2) (p8.1) 1) fun p9 =>
  (Option.bind (HS.app (p8.2) p7 p9 1) fun p10 =>
  (Option.bind (y5) fun p11 =>
  (Option.bind (HS.sets (p10.2) p11 [(Sl.hv (p10.1))]) fun p12 =>
  (Option.bind (y2) fun p13 =>
  (Option.bind (HS.ldP p12 p13) fun p14 =>
  (Option.bind (timer_Table_int_Stop.f D H k p14 y10 p12) fun p15 =>
  (HS.endr p15.2 l none))))))))))))
theorem J0_snd {D : Dp} {H : Hd} {k : Nat} {l : Nat} (hD : DSound Try.prog base W0 D) (hH : HSound Try.prog base W0 β0 H)  {y2 : (Option HA)} {y5 : (Option HA)} {y10 : Int} {S : HS} {p : HV × HS} {g0 g1 g3 g4 g6 g7 g8 g9 g11 g12 g13 g14 g15 g16 g17 g18 g19 : HV} (h : J0 D H k l y2 y5 y10 S = some p) : HRun Try.prog base W0 β0 22 (some l) [.code c9, .beginRound, .code c10] ⟨[g0, g1, (.ptr y2), g3, g4, (.ptr y5), g6, g7, g8, g9, (.int .i64 y10), g11, g12, g13, g14, g15, g16, g17, g18, g19], []⟩ S (fun v S1 => v = p.1 ∧ S1 = p.2) := by
  unfold J0 at h
  refine q_region e9 rfl ?_
  refine q_op (dst := some 6) rfl (fun _ ho => ok_assign ho (.tmp rfl)) ?_
  refine hr_region_end ?_
  try dsimp only [HAct.put, List.set_cons_zero, List.set_cons_succ]
  obtain ⟨p5, hp5, h⟩ := bindo h
  refine q_begin hp5 ?_
  refine q_block e10 ?_
  refine q_seq e11 ?_
  refine q_region e12 rfl ?_
  obtain ⟨p6, hp6, h⟩ := bindo h
  obtain ⟨p7, hp7, h⟩ := bindo h
  refine q_op (dst := some 12) rfl (fun _ ho => ok_load_s ho sc48 (.tmp rfl) hp6 (ldSl_out hp7)) ?_
  refine q_op (dst := some 13) rfl (fun _ ho => ok_move ho (.tmp rfl)) ?_
  obtain ⟨p8, hp8, h⟩ := leto h
  refine q_op (dst := some 14) rfl (fun _ ho => ok_buildSlice_s (xs := [(.tmp 13)]) el48 ho rfl rfl (by decide) (.cons (.tmp rfl) Evs.nil) rfl rfl hp8) ?_
  obtain ⟨p9, hp9, h⟩ := bindo h
  obtain ⟨p10, hp10, h⟩ := bindo h
  refine q_op (dst := some 15) rfl (fun _ ho => ok_append (s := p7) (s1 := (p8.1)) el48 ho rfl rfl ⟨_, tu48⟩ (.tmp rfl) (.tmp rfl) hp9 hp10) ?_
  try dsimp only [HAct.put, List.set_cons_zero, List.set_cons_succ]
  obtain ⟨p11, hp11, h⟩ := bindo h
  obtain ⟨p12, hp12, h⟩ := bindo h
  refine q_op (dst := none) rfl (fun _ ho => ok_store_s (v := (Sl.hv (p10.1))) ho sz48 (.tmp rfl) hp11 (.tmp rfl) rfl hp12) ?_
  refine hr_region_end ?_
  try dsimp only [HAct.put, List.set_cons_zero, List.set_cons_succ]
  refine q_region e13 rfl ?_
  obtain ⟨p13, hp13, h⟩ := bindo h
  obtain ⟨p14, hp14, h⟩ := bindo h
  refine q_op (dst := some 16) rfl (fun _ ho => ok_load_s ho sc49 (.tmp rfl) hp13 (ldP_out hp14)) ?_
  refine q_op (dst := some 17) rfl (fun _ ho => ok_move ho (.tmp rfl)) ?_
  obtain ⟨p15, hp15, h⟩ := bindo h
  refine q_call (dst := some 18) rfl (.func _) (.cons (.tmp rfl) (.cons (.tmp rfl) Evs.nil)) (HInv.static timer_Table_int_Stop.at_ timer_Table_int_Stop.body (timer_Table_int_Stop.snd hD hH hp15)) ?_
  rintro _ _ ⟨rfl, rfl⟩
  refine hr_region_end ?_
  try dsimp only [HAct.put, List.set_cons_zero, List.set_cons_succ]
  refine hr_inBlock ?_
  exact q_round_end h ⟨rfl, rfl⟩
def f (D : Dp) (H : Hd) (k : Nat) (x0 : (Option HA)) (x1 : Int) (S : HS) : Option ((Sl) × HS) :=
  (letv (HS.new S (.cells 1 [[(.ptr x0)]] true)) fun p1 =>
  (letv (HS.new p1 (.cells 1 [[(Sl.hv Sl.nil)]] true)) fun p2 =>
  (Option.bind (HS.ldP p2 (HA.cell0 S.next)) fun p3 =>
  (Option.bind (timer_Table_int_Due.f k p3 x1 p2) fun p4 =>
  (Option.bind (D (Hd.set H (HS.next p4.2 + 1) fun vs T =>
  (Option.bind (HS.lp T (HS.next p4.2 + 1)) fun u19 =>
  (Option.bind (args2 vs) fun ar16 =>
  (Option.bind (dI .i64 ar16.1) fun p17 =>
  (Option.bind (dI .i64 ar16.2) fun p18 =>
  (J0 D H k (HS.next p4.2 + 1) (some (HA.cell0 S.next)) (some (HA.cell0 p1.next)) p17 T)))))) p4.1 [.fn (.yield (HS.next p4.2 + 1)) [] []] (HS.new (HS.new p4.2 .defer) (.loop .ready none))) fun p20 =>
  (Option.bind (HS.finish p20.2 (HS.next p4.2 + 1)) fun p21 =>
  (Option.bind (pcode p21.1) fun n22 =>
  (if n22 = 0 then
  (Option.bind (HS.ldSl p21.2 (HA.cell0 p1.next)) fun p24 =>
  (Option.bind (HS.leave p21.2 (HS.next p4.2 :: [])) fun p25 =>
  some (p24, p25))) else
  none))))))))
theorem snd {D : Dp} {H : Hd} {k : Nat} {x0 : (Option HA)} {x1 : Int} {S : HS} (hD : DSound Try.prog base W0 D) (hH : HSound Try.prog base W0 β0 H)  {p : (Sl) × HS} (h : f D H k x0 x1 S = some p) : HCall Try.prog base W0 β0 22 [(.ptr x0), (.int .i64 x1)] S (fun v S1 => v = (Sl.hv p.1) ∧ S1 = p.2) := by
  unfold f at h
  refine HCall.of_run at_.at_ body ?_
  show HRun Try.prog base W0 β0 22 none [.code c0] ⟨[(.ptr x0), (.int .i64 x1), .tup [], .tup [], .tup [], .tup [], .tup [], .tup [], .tup [], .tup [], .tup [], .tup [], .tup [], .tup [], .tup [], .tup [], .tup [], .tup [], .tup [], .tup []], []⟩ S _
  refine q_seq e0 ?_
  refine q_region e1 rfl ?_
  obtain ⟨p1, hp1, h⟩ := leto h
  refine q_op (dst := some 2) rfl (fun _ ho => ok_box_e ho (.tmp rfl) (Nat.zero_lt_succ _) rfl hp1) ?_
  refine q_op (dst := some 4) rfl (fun _ ho => ok_assign ho (.const fun _ => .slNil none)) ?_
  refine hr_region_end ?_
  try dsimp only [HAct.put, List.set_cons_zero, List.set_cons_succ]
  refine q_seq e2 ?_
  refine q_region e3 rfl ?_
  obtain ⟨p2, hp2, h⟩ := leto h
  refine q_op (dst := some 5) rfl (fun _ ho => ok_alloc_e ho zi48 zr48 (by decide) rfl hp2) ?_
  refine hr_region_end ?_
  try dsimp only [HAct.put, List.set_cons_zero, List.set_cons_succ]
  refine q_seq e4 ?_
  refine q_seq e5 ?_
  refine q_region e6 rfl ?_
  obtain ⟨p3, hp3, h⟩ := bindo h
  refine q_op (dst := some 7) rfl (fun _ ho => ok_load_s ho sc49 (.tmp rfl) rfl (ldP_out hp3)) ?_
  refine q_op (dst := some 8) rfl (fun _ ho => ok_move ho (.tmp rfl)) ?_
  obtain ⟨p4, hp4, h⟩ := bindo h
  refine q_call (dst := some 9) rfl (.func _) (.cons (.tmp rfl) (.cons (.tmp rfl) Evs.nil)) (HInv.static timer_Table_int_Due.at_ timer_Table_int_Due.body (timer_Table_int_Due.snd  hp4)) ?_
  rintro _ _ ⟨rfl, rfl⟩
  refine hr_region_end ?_
  try dsimp only [HAct.put, List.set_cons_zero, List.set_cons_succ]
  refine q_block e7 ?_
  obtain ⟨p20, hp20, h⟩ := bindo h
  obtain ⟨p21, hp21, h⟩ := bindo h
  obtain ⟨n22, hn22, h⟩ := bindo h
  refine q_range (D := D) (H := H) e8 (.tmp rfl) hD hH hp20 hp21 ?_ ?_
  · intro β1 hle hLA vs T u T' hr
    obtain ⟨u19, hu19, hr⟩ := bindo hr
    obtain ⟨ar16, har16, hr⟩ := bindo hr
    obtain ⟨p17, hp17, hr⟩ := bindo hr
    obtain ⟨p18, hp18, hr⟩ := bindo hr
    rw [args2_out har16]
    refine q_yield2 hLA hu19 rfl rfl ?_
    rw [dI_out hp17, dI_out hp18]
    simp only [HAct.params, List.set_cons_zero, List.set_cons_succ]
    exact J0_snd hD (hH.up hle) hr
  · rcases ifc h with ⟨hc23, h⟩ | ⟨hc23, h⟩
    · rw [pcode0 hn22 hc23]
      simp only [jumped_none, jumped_some]
      refine hr_inBlock ?_
      refine q_seq e14 ?_
      refine q_region e15 rfl ?_
      obtain ⟨p24, hp24, h⟩ := bindo h
      refine q_op (dst := some 19) rfl (fun _ ho => ok_load_s ho sc48 (.tmp rfl) rfl (ldSl_out hp24)) ?_
      refine q_op (dst := some 4) rfl (fun _ ho => ok_assign ho (.tmp rfl)) ?_
      refine hr_region_end ?_
      try dsimp only [HAct.put, List.set_cons_zero, List.set_cons_succ]
      obtain ⟨p25, hp25, h⟩ := bindo h
      cases h
      exact q_ret e16 at_.at_ hp25 (res1 rfl rfl) ⟨rfl, rfl⟩
    · cases h
end
end timer_Table_int_Take
namespace timer_Table_int_Len
abbrev id : Nat := 23
theorem at_ : FnAt Try.prog 23 Try.f23 := ⟨Try.func23, by kernel_rfl⟩
noncomputable def c0 : Code := (Try.f23.body).getD .skip
noncomputable def c1 : Code := match c0 with | .seq x _ => x | _ => .skip
noncomputable def c2 : Code := match c0 with | .seq _ x => x | _ => .skip
noncomputable def c3 : Code := match c2 with | .seq x _ => x | _ => .skip
noncomputable def c4 : Code := match c3 with | .seq x _ => x | _ => .skip
noncomputable def c5 : Code := match c3 with | .seq _ x => x | _ => .skip
noncomputable def c6 : Code := match c5 with | .cond _ x _ => x | _ => .skip
noncomputable def c7 : Code := match c6 with | .seq x _ => x | _ => .skip
noncomputable def c8 : Code := match c6 with | .seq _ x => x | _ => .skip
noncomputable def c9 : Code := match c5 with | .cond _ _ x => x | _ => .skip
noncomputable def c10 : Code := match c2 with | .seq _ x => x | _ => .skip
noncomputable def c11 : Code := match c10 with | .seq x _ => x | _ => .skip
noncomputable def c12 : Code := match c10 with | .seq _ x => x | _ => .skip
theorem e0 : c0 = .seq c1 c2 := by kernel_rfl
noncomputable def r1 : Array Oper := match c1 with | .region _ x _ => x | _ => #[]
theorem e1 : c1 = .region 0 r1 false := by kernel_rfl
theorem e2 : c2 = .seq c3 c10 := by kernel_rfl
theorem e3 : c3 = .seq c4 c5 := by kernel_rfl
noncomputable def r4 : Array Oper := match c4 with | .region _ x _ => x | _ => #[]
theorem e4 : c4 = .region 1 r4 false := by kernel_rfl
theorem e5 : c5 = .cond (.tmp 4) c6 c9 := by kernel_rfl
theorem e6 : c6 = .seq c7 c8 := by kernel_rfl
noncomputable def r7 : Array Oper := match c7 with | .region _ x _ => x | _ => #[]
theorem e7 : c7 = .region 2 r7 false := by kernel_rfl
theorem e8 : c8 = .ret := by kernel_rfl
theorem e9 : c9 = .skip := by kernel_rfl
theorem e10 : c10 = .seq c11 c12 := by kernel_rfl
noncomputable def r11 : Array Oper := match c11 with | .region _ x _ => x | _ => #[]
theorem e11 : c11 = .region 3 r11 false := by kernel_rfl
theorem e12 : c12 = .ret := by kernel_rfl
theorem body : Try.f23.body = some c0 := by kernel_rfl
section
variable {base : Nat} {W0 : World} {β0 : Bt}
def f (x0 : (Option HA)) (S : HS) : Option ((Int) × HS) :=
  (if (Option.isNone x0) = true then
  some (0, S) else
  (Option.bind (x0) fun p2 =>
  (Option.bind (HS.ldSl S (HA.fld p2 0)) fun p3 =>
  some ((Sl.len p3 : Int), S))))
theorem snd {x0 : (Option HA)} {S : HS}  {p : (Int) × HS} (h : f x0 S = some p) : HCall Try.prog base W0 β0 23 [(.ptr x0)] S (fun v S1 => v = (.int .i64 p.1) ∧ S1 = p.2) := by
  unfold f at h
  refine HCall.of_run at_.at_ body ?_
  show HRun Try.prog base W0 β0 23 none [.code c0] ⟨[(.ptr x0), .tup [], .tup [], .tup [], .tup [], .tup [], .tup [], .tup [], .tup [], .tup []], []⟩ S _
  refine q_seq e0 ?_
  refine q_region e1 rfl ?_
  refine q_op (dst := some 2) rfl (fun _ ho => ok_assign ho (.int _ _)) ?_
  refine hr_region_end ?_
  try dsimp only [HAct.put, List.set_cons_zero, List.set_cons_succ]
  refine q_seq e2 ?_
  refine q_seq e3 ?_
  refine q_region e4 rfl ?_
  refine q_op (dst := some 3) rfl (fun _ ho => ok_move ho (.tmp rfl)) ?_
  refine q_op (dst := some 4) rfl (fun _ ho => ok_nil_ptr ho tu49 (.tmp rfl) (.inl ⟨rfl, rfl⟩)) ?_
  refine hr_region_end ?_
  try dsimp only [HAct.put, List.set_cons_zero, List.set_cons_succ]
  rcases ifc h with ⟨hc1, h⟩ | ⟨hc1, h⟩
  · refine q_cond_t e5 (.tmp rfl) hc1 ?_
    refine q_seq e6 ?_
    refine q_region e7 rfl ?_
    refine q_op (dst := some 2) rfl (fun _ ho => ok_assign ho (.int _ _)) ?_
    refine hr_region_end ?_
    try dsimp only [HAct.put, List.set_cons_zero, List.set_cons_succ]
    cases h
    exact q_ret e8 at_.at_ rfl (res1 rfl rfl) ⟨rfl, rfl⟩
  · refine q_cond_f e5 (.tmp rfl) (bfalse hc1) ?_
    refine q_skipc e9 ?_
    refine q_seq e10 ?_
    refine q_region e11 rfl ?_
    refine q_op (dst := some 5) rfl (fun _ ho => ok_move ho (.tmp rfl)) ?_
    obtain ⟨p2, hp2, h⟩ := bindo h
    refine q_op (dst := some 6) rfl (fun _ ho => ok_nilCheck_p ho (.tmp rfl) hp2) ?_
    refine q_op (dst := some 7) rfl (fun _ ho => ok_fieldAddr_s ho fi74_0 (by decide) (.tmp rfl) rfl) ?_
    obtain ⟨p3, hp3, h⟩ := bindo h
    refine q_op (dst := some 8) rfl (fun _ ho => ok_load_s ho sc72 (.tmp rfl) rfl (ldSl_out hp3)) ?_
    try dsimp only [HAct.put, List.set_cons_zero, List.set_cons_succ]
    refine q_op (dst := some 9) rfl (fun _ ho => ok_len_sl (q := Sl.a p3) (n := Sl.len p3) (z := Sl.cap p3) ho rfl tu72 (.tmp rfl)) ?_
    refine q_op (dst := some 2) rfl (fun _ ho => ok_assign ho (.tmp rfl)) ?_
    refine hr_region_end ?_
    try dsimp only [HAct.put, List.set_cons_zero, List.set_cons_succ]
    cases h
    exact q_ret e12 at_.at_ rfl (res1 rfl rfl) ⟨rfl, rfl⟩
end
end timer_Table_int_Len
namespace timer_Table_int_Next
abbrev id : Nat := 24
theorem at_ : FnAt Try.prog 24 Try.f24 := ⟨Try.func24, by kernel_rfl⟩
noncomputable def c0 : Code := (Try.f24.body).getD .skip
noncomputable def c1 : Code := match c0 with | .seq x _ => x | _ => .skip
noncomputable def c2 : Code := match c0 with | .seq _ x => x | _ => .skip
noncomputable def c3 : Code := match c2 with | .seq x _ => x | _ => .skip
noncomputable def c4 : Code := match c3 with | .seq x _ => x | _ => .skip
noncomputable def c5 : Code := match c3 with | .seq _ x => x | _ => .skip
noncomputable def c6 : Code := match c5 with | .cond _ x _ => x | _ => .skip
noncomputable def c7 : Code := match c6 with | .seq x _ => x | _ => .skip
noncomputable def c8 : Code := match c6 with | .seq _ x => x | _ => .skip
noncomputable def c9 : Code := match c8 with | .seq x _ => x | _ => .skip
noncomputable def c10 : Code := match c8 with | .seq _ x => x | _ => .skip
noncomputable def c11 : Code := match c5 with | .cond _ _ x => x | _ => .skip
noncomputable def c12 : Code := match c2 with | .seq _ x => x | _ => .skip
noncomputable def c13 : Code := match c12 with | .seq x _ => x | _ => .skip
noncomputable def c14 : Code := match c12 with | .seq _ x => x | _ => .skip
theorem e0 : c0 = .seq c1 c2 := by kernel_rfl
noncomputable def r1 : Array Oper := match c1 with | .region _ x _ => x | _ => #[]
theorem e1 : c1 = .region 0 r1 false := by kernel_rfl
theorem e2 : c2 = .seq c3 c12 := by kernel_rfl
theorem e3 : c3 = .seq c4 c5 := by kernel_rfl
noncomputable def r4 : Array Oper := match c4 with | .region _ x _ => x | _ => #[]
theorem e4 : c4 = .region 1 r4 false := by kernel_rfl
theorem e5 : c5 = .cond (.tmp 8) c6 c11 := by kernel_rfl
theorem e6 : c6 = .seq c7 c8 := by kernel_rfl
noncomputable def r7 : Array Oper := match c7 with | .region _ x _ => x | _ => #[]
theorem e7 : c7 = .region 2 r7 false := by kernel_rfl
theorem e8 : c8 = .seq c9 c10 := by kernel_rfl
noncomputable def r9 : Array Oper := match c9 with | .region _ x _ => x | _ => #[]
theorem e9 : c9 = .region 3 r9 false := by kernel_rfl
theorem e10 : c10 = .ret := by kernel_rfl
theorem e11 : c11 = .skip := by kernel_rfl
theorem e12 : c12 = .seq c13 c14 := by kernel_rfl
noncomputable def r13 : Array Oper := match c13 with | .region _ x _ => x | _ => #[]
theorem e13 : c13 = .region 4 r13 true := by kernel_rfl
theorem e14 : c14 = .ret := by kernel_rfl
theorem body : Try.f24.body = some c0 := by kernel_rfl
section
variable {base : Nat} {W0 : World} {β0 : Bt}
def f (x0 : (Option HA)) (S : HS) : Option ((Int × Int × Bool) × HS) :=
  (Option.bind (timer_Table_int_Len.f x0 S) fun p1 =>
  (if p1.1 = 0 then
  some ((0, 0, false), p1.2) else
  (Option.bind (x0) fun p3 =>
  (Option.bind (HS.ldSl p1.2 (HA.fld p3 0)) fun p4 =>
  (Option.bind (HS.idx p1.2 p4 0 2) fun p5 =>
  (Option.bind (HS.ldI p1.2 .i64 (HA.fld p5 0)) fun p6 =>
  (Option.bind (x0) fun p7 =>
  (Option.bind (HS.ldSl p1.2 (HA.fld p7 0)) fun p8 =>
  (Option.bind (HS.idx p1.2 p8 0 2) fun p9 =>
  (Option.bind (HS.ldI p1.2 .i64 (HA.fld p9 1)) fun p10 =>
  some ((p6, p10, true), p1.2)))))))))))
theorem snd {x0 : (Option HA)} {S : HS}  {p : (Int × Int × Bool) × HS} (h : f x0 S = some p) : HCall Try.prog base W0 β0 24 [(.ptr x0)] S (fun v S1 => v = (.tup [(.int .i64 p.1.1), (.int .i64 p.1.2.1), (.bool p.1.2.2)]) ∧ S1 = p.2) := by
  unfold f at h
  refine HCall.of_run at_.at_ body ?_
  show HRun Try.prog base W0 β0 24 none [.code c0] ⟨[(.ptr x0), .tup [], .tup [], .tup [], .tup [], .tup [], .tup [], .tup [], .tup [], .tup [], .tup [], .tup [], .tup [], .tup [], .tup [], .tup [], .tup [], .tup [], .tup [], .tup [], .tup [], .tup [], .tup [], .tup []], []⟩ S _
  refine q_seq e0 ?_
  refine q_region e1 rfl ?_
  refine q_op (dst := some 2) rfl (fun _ ho => ok_assign ho (.int _ _)) ?_
  refine q_op (dst := some 3) rfl (fun _ ho => ok_assign ho (.int _ _)) ?_
  refine q_op (dst := some 4) rfl (fun _ ho => ok_assign ho (.bool _)) ?_
  refine hr_region_end ?_
  try dsimp only [HAct.put, List.set_cons_zero, List.set_cons_succ]
  refine q_seq e2 ?_
  refine q_seq e3 ?_
  refine q_region e4 rfl ?_
  refine q_op (dst := some 6) rfl (fun _ ho => ok_move ho (.tmp rfl)) ?_
  obtain ⟨p1, hp1, h⟩ := bindo h
  refine q_call (dst := some 7) rfl (.func _) (.cons (.tmp rfl) Evs.nil) (HInv.static timer_Table_int_Len.at_ timer_Table_int_Len.body (timer_Table_int_Len.snd  hp1)) ?_
  rintro _ _ ⟨rfl, rfl⟩
  refine q_op (dst := some 8) rfl (fun _ ho => ok_ibin ho (.tmp rfl) (.int _ _) rfl) ?_
  refine hr_region_end ?_
  try dsimp only [HAct.put, List.set_cons_zero, List.set_cons_succ]
  rcases ifc h with ⟨hc2, h⟩ | ⟨hc2, h⟩
  · refine q_cond_t e5 (.tmp rfl) (decide_eq_true hc2) ?_
    refine q_seq e6 ?_
    refine q_region e7 rfl ?_
    refine q_op (dst := some 5) rfl (fun _ ho => ok_assign ho (.int _ _)) ?_
    refine hr_region_end ?_
    try dsimp only [HAct.put, List.set_cons_zero, List.set_cons_succ]
    refine q_seq e8 ?_
    refine q_region e9 rfl ?_
    refine q_op (dst := some 9) rfl (fun _ ho => ok_move ho (.tmp rfl)) ?_
    refine q_op (dst := some 2) rfl (fun _ ho => ok_assign ho (.tmp rfl)) ?_
    refine q_op (dst := some 3) rfl (fun _ ho => ok_assign ho (.int _ _)) ?_
    refine q_op (dst := some 4) rfl (fun _ ho => ok_assign ho (.bool _)) ?_
    refine hr_region_end ?_
    try dsimp only [HAct.put, List.set_cons_zero, List.set_cons_succ]
    cases h
    exact q_ret e10 at_.at_ rfl (res3 rfl rfl rfl rfl) ⟨rfl, rfl⟩
  · refine q_cond_f e5 (.tmp rfl) (decide_eq_false hc2) ?_
    refine q_skipc e11 ?_
    refine q_seq e12 ?_
    refine x_start (cls := [0, 0, 0, 1, 1, 0, 1, 0, 0, 0, 1, 1, 0, 1, 0, 0, 0]) (rk := [0, 1, 2, 3, 4, 5, 6, 8, 9, 10, 11, 12, 13, 14, 7, 15, 16]) e13 (by kernel_rfl) ?_
    refine x_go (f_op (dst := some 10) (ts := [0]) rfl (by intro _ _ h; cases h) (by kernel_rfl) (fun _ _ ho => ok_move ho (.tmp rfl))) rfl ?_
    obtain ⟨p3, hp3, h⟩ := bindo h
    refine x_go (f_op (dst := some 11) (ts := [10]) rfl (by intro _ _ h; cases h) (by kernel_rfl) (fun _ _ ho => ok_nilCheck_p ho (.tmp rfl) hp3)) rfl ?_
    refine x_go (f_op (dst := some 12) (ts := [11]) rfl (by intro _ _ h; cases h) (by kernel_rfl) (fun _ _ ho => ok_fieldAddr_s ho fi74_0 (by decide) (.tmp rfl) rfl)) rfl ?_
    obtain ⟨p4, hp4, h⟩ := bindo h
    refine x_go (r_op (dst := some 13) (ts := [12]) rfl (by intro _ _ h; cases h) (by kernel_rfl) (fun _ ho => ok_load_s ho sc72 (.tmp rfl) rfl (ldSl_out hp4))) rfl ?_
    try dsimp only [HAct.put, List.set_cons_zero, List.set_cons_succ]
    obtain ⟨p5, hp5, h⟩ := bindo h
    refine x_go (r_op (dst := some 14) (ts := [13]) rfl (by intro _ _ h; cases h) (by kernel_rfl) (fun _ ho => ok_indexAddr (s := p4) ho tu72 sz78 (.tmp rfl) (.int _ _) hp5)) rfl ?_
    refine x_go (f_op (dst := some 15) (ts := [14]) rfl (by intro _ _ h; cases h) (by kernel_rfl) (fun _ _ ho => ok_fieldAddr_s ho fi78_0 (by decide) (.tmp rfl) rfl)) rfl ?_
    obtain ⟨p6, hp6, h⟩ := bindo h
    refine x_go (r_op (dst := some 16) (ts := [15]) rfl (by intro _ _ h; cases h) (by kernel_rfl) (fun _ ho => ok_load_s ho sc3 (.tmp rfl) rfl (ldI_out hp6))) rfl ?_
    refine x_go (f_op (dst := some 17) (ts := [0]) rfl (by intro _ _ h; cases h) (by kernel_rfl) (fun _ _ ho => ok_move ho (.tmp rfl))) rfl ?_
    try dsimp only [HAct.put, List.set_cons_zero, List.set_cons_succ]
    obtain ⟨p7, hp7, h⟩ := bindo h
    refine x_go (f_op (dst := some 18) (ts := [17]) rfl (by intro _ _ h; cases h) (by kernel_rfl) (fun _ _ ho => ok_nilCheck_p ho (.tmp rfl) hp7)) rfl ?_
    refine x_go (f_op (dst := some 19) (ts := [18]) rfl (by intro _ _ h; cases h) (by kernel_rfl) (fun _ _ ho => ok_fieldAddr_s ho fi74_0 (by decide) (.tmp rfl) rfl)) rfl ?_
    obtain ⟨p8, hp8, h⟩ := bindo h
    refine x_go (r_op (dst := some 20) (ts := [19]) rfl (by intro _ _ h; cases h) (by kernel_rfl) (fun _ ho => ok_load_s ho sc72 (.tmp rfl) rfl (ldSl_out hp8))) rfl ?_
    obtain ⟨p9, hp9, h⟩ := bindo h
    refine x_go (r_op (dst := some 21) (ts := [20]) rfl (by intro _ _ h; cases h) (by kernel_rfl) (fun _ ho => ok_indexAddr (s := p8) ho tu72 sz78 (.tmp rfl) (.int _ _) hp9)) rfl ?_
    try dsimp only [HAct.put, List.set_cons_zero, List.set_cons_succ]
    refine x_go (f_op (dst := some 22) (ts := [21]) rfl (by intro _ _ h; cases h) (by kernel_rfl) (fun _ _ ho => ok_fieldAddr_s ho fi78_1 (by decide) (.tmp rfl) rfl)) rfl ?_
    obtain ⟨p10, hp10, h⟩ := bindo h
    refine x_go (r_op (dst := some 23) (ts := [22]) rfl (by intro _ _ h; cases h) (by kernel_rfl) (fun _ ho => ok_load_s ho sc3 (.tmp rfl) rfl (ldI_out hp10))) rfl ?_
    refine x_go (f_op (dst := some 2) (ts := [16]) rfl (by intro _ _ h; cases h) (by kernel_rfl) (fun _ _ ho => ok_assign ho (.tmp rfl))) rfl ?_
    refine x_go (f_op (dst := some 3) (ts := [23]) rfl (by intro _ _ h; cases h) (by kernel_rfl) (fun _ _ ho => ok_assign ho (.tmp rfl))) rfl ?_
    try dsimp only [HAct.put, List.set_cons_zero, List.set_cons_succ]
    refine x_go (f_op (dst := some 4) (ts := []) rfl (by intro _ _ h; cases h) (by kernel_rfl) (fun _ _ ho => ok_assign ho (.bool _))) rfl ?_
    refine x_rest rfl ?_
    refine hr_region_end ?_
    try dsimp only [HAct.put, List.set_cons_zero, List.set_cons_succ]
    cases h
    exact q_ret e14 at_.at_ rfl (res3 rfl rfl rfl rfl) ⟨rfl, rfl⟩
end
end timer_Table_int_Next
namespace rollcalllaw09_TimerDue
abbrev id : Nat := 4
theorem at_ : FnAt Try.prog 4 Try.f4 := ⟨Try.func4, by kernel_rfl⟩
noncomputable def c0 : Code := (Try.f4.body).getD .skip
noncomputable def c1 : Code := match c0 with | .seq x _ => x | _ => .skip
noncomputable def c2 : Code := match c0 with | .seq _ x => x | _ => .skip
noncomputable def c3 : Code := match c2 with | .seq x _ => x | _ => .skip
noncomputable def c4 : Code := match c3 with | .seq x _ => x | _ => .skip
noncomputable def c5 : Code := match c3 with | .seq _ x => x | _ => .skip
noncomputable def c6 : Code := match c5 with | .cond _ x _ => x | _ => .skip
noncomputable def c7 : Code := match c6 with | .seq x _ => x | _ => .skip
noncomputable def c8 : Code := match c6 with | .seq _ x => x | _ => .skip
noncomputable def c9 : Code := match c5 with | .cond _ _ x => x | _ => .skip
noncomputable def c10 : Code := match c2 with | .seq _ x => x | _ => .skip
noncomputable def c11 : Code := match c10 with | .seq x _ => x | _ => .skip
noncomputable def c12 : Code := match c11 with | .seq x _ => x | _ => .skip
noncomputable def c13 : Code := match c11 with | .seq _ x => x | _ => .skip
noncomputable def c14 : Code := match c13 with | .cond _ x _ => x | _ => .skip
noncomputable def c15 : Code := match c14 with | .seq x _ => x | _ => .skip
noncomputable def c16 : Code := match c14 with | .seq _ x => x | _ => .skip
noncomputable def c17 : Code := match c13 with | .cond _ _ x => x | _ => .skip
noncomputable def c18 : Code := match c10 with | .seq _ x => x | _ => .skip
noncomputable def c19 : Code := match c18 with | .seq x _ => x | _ => .skip
noncomputable def c20 : Code := match c18 with | .seq _ x => x | _ => .skip
noncomputable def c21 : Code := match c20 with | .seq x _ => x | _ => .skip
noncomputable def c22 : Code := match c20 with | .seq _ x => x | _ => .skip
noncomputable def c23 : Code := match c22 with | .seq x _ => x | _ => .skip
noncomputable def c24 : Code := match c23 with | .seq x _ => x | _ => .skip
noncomputable def c25 : Code := match c23 with | .seq _ x => x | _ => .skip
noncomputable def c26 : Code := match c25 with | .block _ x => x | _ => .skip
noncomputable def c27 : Code := match c26 with | .loop x => x | _ => .skip
noncomputable def c28 : Code := match c27 with | .seq x _ => x | _ => .skip
noncomputable def c29 : Code := match c28 with | .seq x _ => x | _ => .skip
noncomputable def c30 : Code := match c28 with | .seq _ x => x | _ => .skip
noncomputable def c31 : Code := match c30 with | .cond _ x _ => x | _ => .skip
noncomputable def c32 : Code := match c30 with | .cond _ _ x => x | _ => .skip
noncomputable def c33 : Code := match c27 with | .seq _ x => x | _ => .skip
noncomputable def c34 : Code := match c33 with | .seq x _ => x | _ => .skip
noncomputable def c35 : Code := match c34 with | .block _ x => x | _ => .skip
noncomputable def c36 : Code := match c35 with | .seq x _ => x | _ => .skip
noncomputable def c37 : Code := match c35 with | .seq _ x => x | _ => .skip
noncomputable def c38 : Code := match c37 with | .seq x _ => x | _ => .skip
noncomputable def c39 : Code := match c37 with | .seq _ x => x | _ => .skip
noncomputable def c40 : Code := match c39 with | .cond _ x _ => x | _ => .skip
noncomputable def c41 : Code := match c39 with | .cond _ _ x => x | _ => .skip
noncomputable def c42 : Code := match c33 with | .seq _ x => x | _ => .skip
noncomputable def c43 : Code := match c22 with | .seq _ x => x | _ => .skip
noncomputable def c44 : Code := match c43 with | .seq x _ => x | _ => .skip
noncomputable def c45 : Code := match c43 with | .seq _ x => x | _ => .skip
noncomputable def c46 : Code := match c45 with | .seq x _ => x | _ => .skip
noncomputable def c47 : Code := match c46 with | .seq x _ => x | _ => .skip
noncomputable def c48 : Code := match c46 with | .seq _ x => x | _ => .skip
noncomputable def c49 : Code := match c48 with | .cond _ x _ => x | _ => .skip
noncomputable def c50 : Code := match c49 with | .seq x _ => x | _ => .skip
noncomputable def c51 : Code := match c49 with | .seq _ x => x | _ => .skip
noncomputable def c52 : Code := match c48 with | .cond _ _ x => x | _ => .skip
noncomputable def c53 : Code := match c45 with | .seq _ x => x | _ => .skip
noncomputable def c54 : Code := match c53 with | .seq x _ => x | _ => .skip
noncomputable def c55 : Code := match c54 with | .seq x _ => x | _ => .skip
noncomputable def c56 : Code := match c54 with | .seq _ x => x | _ => .skip
noncomputable def c57 : Code := match c56 with | .block _ x => x | _ => .skip
noncomputable def c58 : Code := match c57 with | .loop x => x | _ => .skip
noncomputable def c59 : Code := match c58 with | .seq x _ => x | _ => .skip
noncomputable def c60 : Code := match c59 with | .seq x _ => x | _ => .skip
noncomputable def c61 : Code := match c59 with | .seq _ x => x | _ => .skip
noncomputable def c62 : Code := match c61 with | .cond _ x _ => x | _ => .skip
noncomputable def c63 : Code := match c61 with | .cond _ _ x => x | _ => .skip
noncomputable def c64 : Code := match c58 with | .seq _ x => x | _ => .skip
noncomputable def c65 : Code := match c64 with | .seq x _ => x | _ => .skip
noncomputable def c66 : Code := match c65 with | .block _ x => x | _ => .skip
noncomputable def c67 : Code := match c66 with | .seq x _ => x | _ => .skip
noncomputable def c68 : Code := match c66 with | .seq _ x => x | _ => .skip
noncomputable def c69 : Code := match c68 with | .seq x _ => x | _ => .skip
noncomputable def c70 : Code := match c68 with | .seq _ x => x | _ => .skip
noncomputable def c71 : Code := match c70 with | .cond _ x _ => x | _ => .skip
noncomputable def c72 : Code := match c71 with | .seq x _ => x | _ => .skip
noncomputable def c73 : Code := match c71 with | .seq _ x => x | _ => .skip
noncomputable def c74 : Code := match c70 with | .cond _ _ x => x | _ => .skip
noncomputable def c75 : Code := match c64 with | .seq _ x => x | _ => .skip
noncomputable def c76 : Code := match c53 with | .seq _ x => x | _ => .skip
noncomputable def c77 : Code := match c76 with | .seq x _ => x | _ => .skip
noncomputable def c78 : Code := match c76 with | .seq _ x => x | _ => .skip
noncomputable def c79 : Code := match c78 with | .seq x _ => x | _ => .skip
noncomputable def c80 : Code := match c78 with | .seq _ x => x | _ => .skip
theorem e0 : c0 = .seq c1 c2 := by kernel_rfl
noncomputable def r1 : Array Oper := match c1 with | .region _ x _ => x | _ => #[]
theorem e1 : c1 = .region 0 r1 false := by kernel_rfl
theorem e2 : c2 = .seq c3 c10 := by kernel_rfl
theorem e3 : c3 = .seq c4 c5 := by kernel_rfl
noncomputable def r4 : Array Oper := match c4 with | .region _ x _ => x | _ => #[]
theorem e4 : c4 = .region 1 r4 false := by kernel_rfl
theorem e5 : c5 = .cond (.tmp 15) c6 c9 := by kernel_rfl
theorem e6 : c6 = .seq c7 c8 := by kernel_rfl
noncomputable def r7 : Array Oper := match c7 with | .region _ x _ => x | _ => #[]
theorem e7 : c7 = .region 2 r7 false := by kernel_rfl
theorem e8 : c8 = .ret := by kernel_rfl
theorem e9 : c9 = .skip := by kernel_rfl
theorem e10 : c10 = .seq c11 c18 := by kernel_rfl
theorem e11 : c11 = .seq c12 c13 := by kernel_rfl
noncomputable def r12 : Array Oper := match c12 with | .region _ x _ => x | _ => #[]
theorem e12 : c12 = .region 3 r12 false := by kernel_rfl
theorem e13 : c13 = .cond (.tmp 18) c14 c17 := by kernel_rfl
theorem e14 : c14 = .seq c15 c16 := by kernel_rfl
noncomputable def r15 : Array Oper := match c15 with | .region _ x _ => x | _ => #[]
theorem e15 : c15 = .region 4 r15 false := by kernel_rfl
theorem e16 : c16 = .ret := by kernel_rfl
theorem e17 : c17 = .skip := by kernel_rfl
theorem e18 : c18 = .seq c19 c20 := by kernel_rfl
noncomputable def r19 : Array Oper := match c19 with | .region _ x _ => x | _ => #[]
theorem e19 : c19 = .region 5 r19 false := by kernel_rfl
theorem e20 : c20 = .seq c21 c22 := by kernel_rfl
noncomputable def r21 : Array Oper := match c21 with | .region _ x _ => x | _ => #[]
theorem e21 : c21 = .region 6 r21 false := by kernel_rfl
theorem e22 : c22 = .seq c23 c43 := by kernel_rfl
theorem e23 : c23 = .seq c24 c25 := by kernel_rfl
noncomputable def r24 : Array Oper := match c24 with | .region _ x _ => x | _ => #[]
theorem e24 : c24 = .region 7 r24 false := by kernel_rfl
theorem e25 : c25 = .block 0 c26 := by kernel_rfl
theorem e26 : c26 = .loop c27 := by kernel_rfl
theorem e27 : c27 = .seq c28 c33 := by kernel_rfl
theorem e28 : c28 = .seq c29 c30 := by kernel_rfl
noncomputable def r29 : Array Oper := match c29 with | .region _ x _ => x | _ => #[]
theorem e29 : c29 = .region 8 r29 false := by kernel_rfl
theorem e30 : c30 = .cond (.tmp 23) c31 c32 := by kernel_rfl
theorem e31 : c31 = .skip := by kernel_rfl
theorem e32 : c32 = .exit 0 := by kernel_rfl
theorem e33 : c33 = .seq c34 c42 := by kernel_rfl
theorem e34 : c34 = .block 1 c35 := by kernel_rfl
theorem e35 : c35 = .seq c36 c37 := by kernel_rfl
noncomputable def r36 : Array Oper := match c36 with | .region _ x _ => x | _ => #[]
theorem e36 : c36 = .region 10 r36 false := by kernel_rfl
theorem e37 : c37 = .seq c38 c39 := by kernel_rfl
noncomputable def r38 : Array Oper := match c38 with | .region _ x _ => x | _ => #[]
theorem e38 : c38 = .region 11 r38 false := by kernel_rfl
theorem e39 : c39 = .cond (.tmp 38) c40 c41 := by kernel_rfl
noncomputable def r40 : Array Oper := match c40 with | .region _ x _ => x | _ => #[]
theorem e40 : c40 = .region 12 r40 false := by kernel_rfl
theorem e41 : c41 = .skip := by kernel_rfl
noncomputable def r42 : Array Oper := match c42 with | .region _ x _ => x | _ => #[]
theorem e42 : c42 = .region 9 r42 false := by kernel_rfl
theorem e43 : c43 = .seq c44 c45 := by kernel_rfl
noncomputable def r44 : Array Oper := match c44 with | .region _ x _ => x | _ => #[]
theorem e44 : c44 = .region 13 r44 false := by kernel_rfl
theorem e45 : c45 = .seq c46 c53 := by kernel_rfl
theorem e46 : c46 = .seq c47 c48 := by kernel_rfl
noncomputable def r47 : Array Oper := match c47 with | .region _ x _ => x | _ => #[]
theorem e47 : c47 = .region 14 r47 false := by kernel_rfl
theorem e48 : c48 = .cond (.tmp 56) c49 c52 := by kernel_rfl
theorem e49 : c49 = .seq c50 c51 := by kernel_rfl
noncomputable def r50 : Array Oper := match c50 with | .region _ x _ => x | _ => #[]
theorem e50 : c50 = .region 15 r50 false := by kernel_rfl
theorem e51 : c51 = .ret := by kernel_rfl
theorem e52 : c52 = .skip := by kernel_rfl
theorem e53 : c53 = .seq c54 c76 := by kernel_rfl
theorem e54 : c54 = .seq c55 c56 := by kernel_rfl
noncomputable def r55 : Array Oper := match c55 with | .region _ x _ => x | _ => #[]
theorem e55 : c55 = .region 16 r55 false := by kernel_rfl
theorem e56 : c56 = .block 2 c57 := by kernel_rfl
theorem e57 : c57 = .loop c58 := by kernel_rfl
theorem e58 : c58 = .seq c59 c64 := by kernel_rfl
theorem e59 : c59 = .seq c60 c61 := by kernel_rfl
noncomputable def r60 : Array Oper := match c60 with | .region _ x _ => x | _ => #[]
theorem e60 : c60 = .region 17 r60 false := by kernel_rfl
theorem e61 : c61 = .cond (.tmp 60) c62 c63 := by kernel_rfl
theorem e62 : c62 = .skip := by kernel_rfl
theorem e63 : c63 = .exit 2 := by kernel_rfl
theorem e64 : c64 = .seq c65 c75 := by kernel_rfl
theorem e65 : c65 = .block 3 c66 := by kernel_rfl
theorem e66 : c66 = .seq c67 c68 := by kernel_rfl
noncomputable def r67 : Array Oper := match c67 with | .region _ x _ => x | _ => #[]
theorem e67 : c67 = .region 19 r67 false := by kernel_rfl
theorem e68 : c68 = .seq c69 c70 := by kernel_rfl
noncomputable def r69 : Array Oper := match c69 with | .region _ x _ => x | _ => #[]
theorem e69 : c69 = .region 20 r69 true := by kernel_rfl
theorem e70 : c70 = .cond (.tmp 125) c71 c74 := by kernel_rfl
theorem e71 : c71 = .seq c72 c73 := by kernel_rfl
noncomputable def r72 : Array Oper := match c72 with | .region _ x _ => x | _ => #[]
theorem e72 : c72 = .region 21 r72 false := by kernel_rfl
theorem e73 : c73 = .ret := by kernel_rfl
theorem e74 : c74 = .skip := by kernel_rfl
noncomputable def r75 : Array Oper := match c75 with | .region _ x _ => x | _ => #[]
theorem e75 : c75 = .region 18 r75 false := by kernel_rfl
theorem e76 : c76 = .seq c77 c78 := by kernel_rfl
noncomputable def r77 : Array Oper := match c77 with | .region _ x _ => x | _ => #[]
theorem e77 : c77 = .region 22 r77 false := by kernel_rfl
theorem e78 : c78 = .seq c79 c80 := by kernel_rfl
noncomputable def r79 : Array Oper := match c79 with | .region _ x _ => x | _ => #[]
theorem e79 : c79 = .region 23 r79 false := by kernel_rfl
theorem e80 : c80 = .ret := by kernel_rfl
theorem body : Try.f4.body = some c0 := by kernel_rfl
section
variable {base : Nat} {W0 : World} {β0 : Bt}
def J1 (D : Dp) (H : Hd) (k : Nat) (rec0 : Sl → Int → (Option HA) → Int → Int → HS → Option ((Bool) × HS)) (y0 : Sl) (y1 : Int) (y5 : (Option HA)) (y6 : Int) (y7 : Int) (S : HS) : Option ((Bool) × HS) :=
  rec0 y0 y1 y5 y6 (w64 (y7 + 1)) S
theorem J1_snd {D : Dp} {H : Hd} {k : Nat} {rec0 : Sl → Int → (Option HA) → Int → Int → HS → Option ((Bool) × HS)} (hD : DSound Try.prog base W0 D) (hH : HSound Try.prog base W0 β0 H) (hrec0 : ∀ ⦃y0 : Sl⦄ ⦃y1 : Int⦄ ⦃y5 : (Option HA)⦄ ⦃y6 : Int⦄ ⦃y7 : Int⦄ ⦃S : HS⦄ ⦃p : (Bool) × HS⦄ ⦃g2 g3 g4 g8 g9 g10 g11 g12 g13 g14 g15 g16 g17 g18 g19 g20 g21 g22 g23 g24 g25 g26 g27 g28 g29 g30 g31 g32 g33 g34 g35 g36 g37 g38 g39 g40 g41 g42 g43 g44 g45 g46 g47 g48 g49 g50 g51 g52 g53 g54 g55 g56 g57 g58 g59 g60 g61 g62 g63 g64 g65 g66 g67 g68 g69 g70 g71 g72 g73 g74 g75 g76 g77 g78 g79 g80 g81 g82 g83 g84 g85 g86 g87 g88 g89 g90 g91 g92 g93 g94 g95 g96 g97 g98 g99 g100 g101 g102 g103 g104 g105 g106 g107 g108 g109 g110 g111 g112 g113 g114 g115 g116 g117 g118 g119 g120 g121 g122 g123 g124 g125 g126 g127 g128 g129 g130 g131 g132 g133 g134 g135 g136 g137 g138 : HV⦄, rec0 y0 y1 y5 y6 y7 S = some p → HRun Try.prog base W0 β0 4 none [.inLoop c27, .inBlock 0, .code c43] ⟨[(Sl.hv y0), (.int .i64 y1), g2, g3, g4, (.ptr y5), (.int .i64 y6), (.int .i64 y7), g8, g9, g10, g11, g12, g13, g14, g15, g16, g17, g18, g19, g20, g21, g22, g23, g24, g25, g26, g27, g28, g29, g30, g31, g32, g33, g34, g35, g36, g37, g38, g39, g40, g41, g42, g43, g44, g45, g46, g47, g48, g49, g50, g51, g52, g53, g54, g55, g56, g57, g58, g59, g60, g61, g62, g63, g64, g65, g66, g67, g68, g69, g70, g71, g72, g73, g74, g75, g76, g77, g78, g79, g80, g81, g82, g83, g84, g85, g86, g87, g88, g89, g90, g91, g92, g93, g94, g95, g96, g97, g98, g99, g100, g101, g102, g103, g104, g105, g106, g107, g108, g109, g110, g111, g112, g113, g114, g115, g116, g117, g118, g119, g120, g121, g122, g123, g124, g125, g126, g127, g128, g129, g130, g131, g132, g133, g134, g135, g136, g137, g138], []⟩ S (fun v S1 => v = (.bool p.1) ∧ S1 = p.2)) {y0 : Sl} {y1 : Int} {y5 : (Option HA)} {y6 : Int} {y7 : Int} {S : HS} {p : (Bool) × HS} {g2 g3 g4 g8 g9 g10 g11 g12 g13 g14 g15 g16 g17 g18 g19 g20 g21 g22 g23 g24 g25 g26 g27 g28 g29 g30 g31 g32 g33 g34 g35 g36 g37 g38 g39 g40 g41 g42 g43 g44 g45 g46 g47 g48 g49 g50 g51 g52 g53 g54 g55 g56 g57 g58 g59 g60 g61 g62 g63 g64 g65 g66 g67 g68 g69 g70 g71 g72 g73 g74 g75 g76 g77 g78 g79 g80 g81 g82 g83 g84 g85 g86 g87 g88 g89 g90 g91 g92 g93 g94 g95 g96 g97 g98 g99 g100 g101 g102 g103 g104 g105 g106 g107 g108 g109 g110 g111 g112 g113 g114 g115 g116 g117 g118 g119 g120 g121 g122 g123 g124 g125 g126 g127 g128 g129 g130 g131 g132 g133 g134 g135 g136 g137 g138 : HV} (h : J1 D H k rec0 y0 y1 y5 y6 y7 S = some p) : HRun Try.prog base W0 β0 4 none [.code c42, .inLoop c27, .inBlock 0, .code c43] ⟨[(Sl.hv y0), (.int .i64 y1), g2, g3, g4, (.ptr y5), (.int .i64 y6), (.int .i64 y7), g8, g9, g10, g11, g12, g13, g14, g15, g16, g17, g18, g19, g20, g21, g22, g23, g24, g25, g26, g27, g28, g29, g30, g31, g32, g33, g34, g35, g36, g37, g38, g39, g40, g41, g42, g43, g44, g45, g46, g47, g48, g49, g50, g51, g52, g53, g54, g55, g56, g57, g58, g59, g60, g61, g62, g63, g64, g65, g66, g67, g68, g69, g70, g71, g72, g73, g74, g75, g76, g77, g78, g79, g80, g81, g82, g83, g84, g85, g86, g87, g88, g89, g90, g91, g92, g93, g94, g95, g96, g97, g98, g99, g100, g101, g102, g103, g104, g105, g106, g107, g108, g109, g110, g111, g112, g113, g114, g115, g116, g117, g118, g119, g120, g121, g122, g123, g124, g125, g126, g127, g128, g129, g130, g131, g132, g133, g134, g135, g136, g137, g138], []⟩ S (fun v S1 => v = (.bool p.1) ∧ S1 = p.2) := by
  unfold J1 at h
  refine q_region e42 rfl ?_
  refine q_op (dst := some 24) rfl (fun _ ho => ok_move ho (.tmp rfl)) ?_
  refine q_op (dst := some 25) rfl (fun _ ho => ok_ibin ho (.tmp rfl) (.int _ _) rfl) ?_
  refine q_op (dst := some 7) rfl (fun _ ho => ok_assign ho (.tmp rfl)) ?_
  refine hr_region_end ?_
  try dsimp only [HAct.put, List.set_cons_zero, List.set_cons_succ]
  try dsimp only [HAct.put, List.set_cons_zero, List.set_cons_succ]
  exact hrec0 h
def J4 (D : Dp) (H : Hd) (k : Nat) (rec0 : Sl → Int → (Option HA) → Sl → Int → HS → Option ((Bool) × HS)) (y0 : Sl) (y1 : Int) (y5 : (Option HA)) (y8 : Sl) (y9 : Int) (y125 : Bool) (S : HS) : Option ((Bool) × HS) :=
  (if y125 = true then
  some (false, S) else
  rec0 y0 y1 y5 y8 (w64 (y9 + 1)) S)
theorem J4_snd {D : Dp} {H : Hd} {k : Nat} {rec0 : Sl → Int → (Option HA) → Sl → Int → HS → Option ((Bool) × HS)} (hD : DSound Try.prog base W0 D) (hH : HSound Try.prog base W0 β0 H) (hrec0 : ∀ ⦃y0 : Sl⦄ ⦃y1 : Int⦄ ⦃y5 : (Option HA)⦄ ⦃y8 : Sl⦄ ⦃y9 : Int⦄ ⦃S : HS⦄ ⦃p : (Bool) × HS⦄ ⦃g2 g3 g4 g6 g7 g10 g11 g12 g13 g14 g15 g16 g17 g18 g19 g20 g21 g22 g23 g24 g25 g26 g27 g28 g29 g30 g31 g32 g33 g34 g35 g36 g37 g38 g39 g40 g41 g42 g43 g44 g45 g46 g47 g48 g49 g50 g51 g52 g53 g54 g55 g56 g57 g58 g59 g60 g61 g62 g63 g64 g65 g66 g67 g68 g69 g70 g71 g72 g73 g74 g75 g76 g77 g78 g79 g80 g81 g82 g83 g84 g85 g86 g87 g88 g89 g90 g91 g92 g93 g94 g95 g96 g97 g98 g99 g100 g101 g102 g103 g104 g105 g106 g107 g108 g109 g110 g111 g112 g113 g114 g115 g116 g117 g118 g119 g120 g121 g122 g123 g124 g125 g126 g127 g128 g129 g130 g131 g132 g133 g134 g135 g136 g137 g138 : HV⦄, rec0 y0 y1 y5 y8 y9 S = some p → HRun Try.prog base W0 β0 4 none [.inLoop c58, .inBlock 2, .code c76] ⟨[(Sl.hv y0), (.int .i64 y1), g2, g3, g4, (.ptr y5), g6, g7, (Sl.hv y8), (.int .i64 y9), g10, g11, g12, g13, g14, g15, g16, g17, g18, g19, g20, g21, g22, g23, g24, g25, g26, g27, g28, g29, g30, g31, g32, g33, g34, g35, g36, g37, g38, g39, g40, g41, g42, g43, g44, g45, g46, g47, g48, g49, g50, g51, g52, g53, g54, g55, g56, g57, g58, g59, g60, g61, g62, g63, g64, g65, g66, g67, g68, g69, g70, g71, g72, g73, g74, g75, g76, g77, g78, g79, g80, g81, g82, g83, g84, g85, g86, g87, g88, g89, g90, g91, g92, g93, g94, g95, g96, g97, g98, g99, g100, g101, g102, g103, g104, g105, g106, g107, g108, g109, g110, g111, g112, g113, g114, g115, g116, g117, g118, g119, g120, g121, g122, g123, g124, g125, g126, g127, g128, g129, g130, g131, g132, g133, g134, g135, g136, g137, g138], []⟩ S (fun v S1 => v = (.bool p.1) ∧ S1 = p.2)) {y0 : Sl} {y1 : Int} {y5 : (Option HA)} {y8 : Sl} {y9 : Int} {y125 : Bool} {S : HS} {p : (Bool) × HS} {g2 g3 g4 g6 g7 g10 g11 g12 g13 g14 g15 g16 g17 g18 g19 g20 g21 g22 g23 g24 g25 g26 g27 g28 g29 g30 g31 g32 g33 g34 g35 g36 g37 g38 g39 g40 g41 g42 g43 g44 g45 g46 g47 g48 g49 g50 g51 g52 g53 g54 g55 g56 g57 g58 g59 g60 g61 g62 g63 g64 g65 g66 g67 g68 g69 g70 g71 g72 g73 g74 g75 g76 g77 g78 g79 g80 g81 g82 g83 g84 g85 g86 g87 g88 g89 g90 g91 g92 g93 g94 g95 g96 g97 g98 g99 g100 g101 g102 g103 g104 g105 g106 g107 g108 g109 g110 g111 g112 g113 g114 g115 g116 g117 g118 g119 g120 g121 g122 g123 g124 g126 g127 g128 g129 g130 g131 g132 g133 g134 g135 g136 g137 g138 : HV} (h : J4 D H k rec0 y0 y1 y5 y8 y9 y125 S = some p) : HRun Try.prog base W0 β0 4 none [.code c70, .inBlock 3, .code c75, .inLoop c58, .inBlock 2, .code c76] ⟨[(Sl.hv y0), (.int .i64 y1), g2, g3, g4, (.ptr y5), g6, g7, (Sl.hv y8), (.int .i64 y9), g10, g11, g12, g13, g14, g15, g16, g17, g18, g19, g20, g21, g22, g23, g24, g25, g26, g27, g28, g29, g30, g31, g32, g33, g34, g35, g36, g37, g38, g39, g40, g41, g42, g43, g44, g45, g46, g47, g48, g49, g50, g51, g52, g53, g54, g55, g56, g57, g58, g59, g60, g61, g62, g63, g64, g65, g66, g67, g68, g69, g70, g71, g72, g73, g74, g75, g76, g77, g78, g79, g80, g81, g82, g83, g84, g85, g86, g87, g88, g89, g90, g91, g92, g93, g94, g95, g96, g97, g98, g99, g100, g101, g102, g103, g104, g105, g106, g107, g108, g109, g110, g111, g112, g113, g114, g115, g116, g117, g118, g119, g120, g121, g122, g123, g124, (.bool y125), g126, g127, g128, g129, g130, g131, g132, g133, g134, g135, g136, g137, g138], []⟩ S (fun v S1 => v = (.bool p.1) ∧ S1 = p.2) := by
  unfold J4 at h
  rcases ifc h with ⟨hc19, h⟩ | ⟨hc19, h⟩
  · refine q_cond_t e70 (.tmp rfl) hc19 ?_
    refine q_seq e71 ?_
    refine q_region e72 rfl ?_
    refine q_op (dst := some 4) rfl (fun _ ho => ok_assign ho (.bool _)) ?_
    refine hr_region_end ?_
    try dsimp only [HAct.put, List.set_cons_zero, List.set_cons_succ]
    cases h
    exact q_ret e73 at_.at_ rfl (res1 rfl rfl) ⟨rfl, rfl⟩
  · refine q_cond_f e70 (.tmp rfl) (bfalse hc19) ?_
    refine q_skipc e74 ?_
    refine hr_inBlock ?_
    refine q_region e75 rfl ?_
    refine q_op (dst := some 61) rfl (fun _ ho => ok_move ho (.tmp rfl)) ?_
    refine q_op (dst := some 62) rfl (fun _ ho => ok_ibin ho (.tmp rfl) (.int _ _) rfl) ?_
    refine q_op (dst := some 9) rfl (fun _ ho => ok_assign ho (.tmp rfl)) ?_
    refine hr_region_end ?_
    try dsimp only [HAct.put, List.set_cons_zero, List.set_cons_succ]
    try dsimp only [HAct.put, List.set_cons_zero, List.set_cons_succ]
    exact hrec0 h
def J5 (D : Dp) (H : Hd) (k : Nat) (y138 : Bool) (S : HS) : Option ((Bool) × HS) :=
  some (y138, S)
theorem J5_snd {D : Dp} {H : Hd} {k : Nat} (hD : DSound Try.prog base W0 D) (hH : HSound Try.prog base W0 β0 H)  {y138 : Bool} {S : HS} {p : (Bool) × HS} {g0 g1 g2 g3 g4 g5 g6 g7 g8 g9 g10 g11 g12 g13 g14 g15 g16 g17 g18 g19 g20 g21 g22 g23 g24 g25 g26 g27 g28 g29 g30 g31 g32 g33 g34 g35 g36 g37 g38 g39 g40 g41 g42 g43 g44 g45 g46 g47 g48 g49 g50 g51 g52 g53 g54 g55 g56 g57 g58 g59 g60 g61 g62 g63 g64 g65 g66 g67 g68 g69 g70 g71 g72 g73 g74 g75 g76 g77 g78 g79 g80 g81 g82 g83 g84 g85 g86 g87 g88 g89 g90 g91 g92 g93 g94 g95 g96 g97 g98 g99 g100 g101 g102 g103 g104 g105 g106 g107 g108 g109 g110 g111 g112 g113 g114 g115 g116 g117 g118 g119 g120 g121 g122 g123 g124 g125 g126 g127 g128 g129 g130 g131 g132 g133 g134 g135 g136 g137 : HV} (h : J5 D H k y138 S = some p) : HRun Try.prog base W0 β0 4 none [.inRegion r79 [7], .code c80] ⟨[g0, g1, g2, g3, g4, g5, g6, g7, g8, g9, g10, g11, g12, g13, g14, g15, g16, g17, g18, g19, g20, g21, g22, g23, g24, g25, g26, g27, g28, g29, g30, g31, g32, g33, g34, g35, g36, g37, g38, g39, g40, g41, g42, g43, g44, g45, g46, g47, g48, g49, g50, g51, g52, g53, g54, g55, g56, g57, g58, g59, g60, g61, g62, g63, g64, g65, g66, g67, g68, g69, g70, g71, g72, g73, g74, g75, g76, g77, g78, g79, g80, g81, g82, g83, g84, g85, g86, g87, g88, g89, g90, g91, g92, g93, g94, g95, g96, g97, g98, g99, g100, g101, g102, g103, g104, g105, g106, g107, g108, g109, g110, g111, g112, g113, g114, g115, g116, g117, g118, g119, g120, g121, g122, g123, g124, g125, g126, g127, g128, g129, g130, g131, g132, g133, g134, g135, g136, g137, (.bool y138)], []⟩ S (fun v S1 => v = (.bool p.1) ∧ S1 = p.2) := by
  unfold J5 at h
  refine q_op (dst := some 4) rfl (fun _ ho => ok_assign ho (.tmp rfl)) ?_
  refine hr_region_end ?_
  try dsimp only [HAct.put, List.set_cons_zero, List.set_cons_succ]
  cases h
  exact q_ret e80 at_.at_ rfl (res1 rfl rfl) ⟨rfl, rfl⟩
def L3 (D : Dp) (H : Hd) (k : Nat) : Nat → Sl → Int → (Option HA) → Sl → Int → HS → Option ((Bool) × HS)
  | 0, _, _, _, _, _, _ => none
  | n + 1, y0, y1, y5, y8, y9, S =>
    (if y9 < (Sl.len y8 : Int) then
    (Option.bind (HS.idx S y8 y9 1) fun p16 =>
    (Option.bind (HS.ldI S .i64 p16) fun p17 =>
    (if p17 < 0 then
    J4 D H k (L3 D H k n) y0 y1 y5 y8 y9 true S else
    (if p17 ≥ (Sl.len y0 : Int) then
    J4 D H k (L3 D H k n) y0 y1 y5 y8 y9 true S else
    (Option.bind (HS.idx S y0 p17 1) fun p21 =>
    (Option.bind (HS.ldI S .i64 p21) fun p22 =>
    (if p22 > y1 then
    J4 D H k (L3 D H k n) y0 y1 y5 y8 y9 true S else
    (if y9 > 0 then
    (Option.bind (HS.idx S y8 (w64 (y9 - 1)) 1) fun p25 =>
    (Option.bind (HS.ldI S .i64 p25) fun p26 =>
    (Option.bind (HS.idx S y0 p26 1) fun p27 =>
    (Option.bind (HS.ldI S .i64 p27) fun p28 =>
    (Option.bind (HS.idx S y0 p17 1) fun p29 =>
    (Option.bind (HS.ldI S .i64 p29) fun p30 =>
    (if p28 > p30 then
    J4 D H k (L3 D H k n) y0 y1 y5 y8 y9 true S else
    (Option.bind (HS.idx S y8 (w64 (y9 - 1)) 1) fun p32 =>
    (Option.bind (HS.ldI S .i64 p32) fun p33 =>
    (Option.bind (HS.idx S y0 p33 1) fun p34 =>
    (Option.bind (HS.ldI S .i64 p34) fun p35 =>
    (Option.bind (HS.idx S y0 p17 1) fun p36 =>
    (Option.bind (HS.ldI S .i64 p36) fun p37 =>
    (if p35 = p37 then
    (Option.bind (HS.idx S y8 (w64 (y9 - 1)) 1) fun p39 =>
    (Option.bind (HS.ldI S .i64 p39) fun p40 =>
    J4 D H k (L3 D H k n) y0 y1 y5 y8 y9 (decide (p40 ≥ p17)) S)) else
    J4 D H k (L3 D H k n) y0 y1 y5 y8 y9 false S)))))))))))))) else
    J4 D H k (L3 D H k n) y0 y1 y5 y8 y9 false S)))))))) else
    (Option.bind (timer_Table_int_Next.f y5 S) fun p41 =>
    (if (!p41.1.2.2) = true then
    J5 D H k true p41.2 else
    J5 D H k (decide (p41.1.2.1 > y1)) p41.2)))
theorem L3_snd {D : Dp} {H : Hd} {k : Nat} (hD : DSound Try.prog base W0 D) (hH : HSound Try.prog base W0 β0 H)  : ∀ {n : Nat} ⦃y0 : Sl⦄ ⦃y1 : Int⦄ ⦃y5 : (Option HA)⦄ ⦃y8 : Sl⦄ ⦃y9 : Int⦄ ⦃S : HS⦄ ⦃p : (Bool) × HS⦄ ⦃g2 g3 g4 g6 g7 g10 g11 g12 g13 g14 g15 g16 g17 g18 g19 g20 g21 g22 g23 g24 g25 g26 g27 g28 g29 g30 g31 g32 g33 g34 g35 g36 g37 g38 g39 g40 g41 g42 g43 g44 g45 g46 g47 g48 g49 g50 g51 g52 g53 g54 g55 g56 g57 g58 g59 g60 g61 g62 g63 g64 g65 g66 g67 g68 g69 g70 g71 g72 g73 g74 g75 g76 g77 g78 g79 g80 g81 g82 g83 g84 g85 g86 g87 g88 g89 g90 g91 g92 g93 g94 g95 g96 g97 g98 g99 g100 g101 g102 g103 g104 g105 g106 g107 g108 g109 g110 g111 g112 g113 g114 g115 g116 g117 g118 g119 g120 g121 g122 g123 g124 g125 g126 g127 g128 g129 g130 g131 g132 g133 g134 g135 g136 g137 g138 : HV⦄, L3 D H k n y0 y1 y5 y8 y9 S = some p → HRun Try.prog base W0 β0 4 none [.inLoop c58, .inBlock 2, .code c76] ⟨[(Sl.hv y0), (.int .i64 y1), g2, g3, g4, (.ptr y5), g6, g7, (Sl.hv y8), (.int .i64 y9), g10, g11, g12, g13, g14, g15, g16, g17, g18, g19, g20, g21, g22, g23, g24, g25, g26, g27, g28, g29, g30, g31, g32, g33, g34, g35, g36, g37, g38, g39, g40, g41, g42, g43, g44, g45, g46, g47, g48, g49, g50, g51, g52, g53, g54, g55, g56, g57, g58, g59, g60, g61, g62, g63, g64, g65, g66, g67, g68, g69, g70, g71, g72, g73, g74, g75, g76, g77, g78, g79, g80, g81, g82, g83, g84, g85, g86, g87, g88, g89, g90, g91, g92, g93, g94, g95, g96, g97, g98, g99, g100, g101, g102, g103, g104, g105, g106, g107, g108, g109, g110, g111, g112, g113, g114, g115, g116, g117, g118, g119, g120, g121, g122, g123, g124, g125, g126, g127, g128, g129, g130, g131, g132, g133, g134, g135, g136, g137, g138], []⟩ S (fun v S1 => v = (.bool p.1) ∧ S1 = p.2) := by
  intro n
  induction n with
  | zero => intro _ _ _ _ _ _ _ _ _ _ _ _ _ _ _ _ _ _ _ _ _ _ _ _ _ _ _ _ _ _ _ _ _ _ _ _ _ _ _ _ _ _ _ _ _ _ _ _ _ _ _ _ _ _ _ _ _ _ _ _ _ _ _ _ _ _ _ _ _ _ _ _ _ _ _ _ _ _ _ _ _ _ _ _ _ _ _ _ _ _ _ _ _ _ _ _ _ _ _ _ _ _ _ _ _ _ _ _ _ _ _ _ _ _ _ _ _ _ _ _ _ _ _ _ _ _ _ _ _ _ _ _ _ _ _ _ _ _ _ _ _ h; cases h
  | succ n ih =>
    intro y0 y1 y5 y8 y9 S p g2 g3 g4 g6 g7 g10 g11 g12 g13 g14 g15 g16 g17 g18 g19 g20 g21 g22 g23 g24 g25 g26 g27 g28 g29 g30 g31 g32 g33 g34 g35 g36 g37 g38 g39 g40 g41 g42 g43 g44 g45 g46 g47 g48 g49 g50 g51 g52 g53 g54 g55 g56 g57 g58 g59 g60 g61 g62 g63 g64 g65 g66 g67 g68 g69 g70 g71 g72 g73 g74 g75 g76 g77 g78 g79 g80 g81 g82 g83 g84 g85 g86 g87 g88 g89 g90 g91 g92 g93 g94 g95 g96 g97 g98 g99 g100 g101 g102 g103 g104 g105 g106 g107 g108 g109 g110 g111 g112 g113 g114 g115 g116 g117 g118 g119 g120 g121 g122 g123 g124 g125 g126 g127 g128 g129 g130 g131 g132 g133 g134 g135 g136 g137 g138 h
    simp only [L3] at h
    refine hr_inLoop ?_
    refine q_seq e58 ?_
    refine q_seq e59 ?_
    refine q_region e60 rfl ?_
    refine q_op (dst := some 57) rfl (fun _ ho => ok_move ho (.tmp rfl)) ?_
    refine q_op (dst := some 58) rfl (fun _ ho => ok_move ho (.tmp rfl)) ?_
    refine q_op (dst := some 59) rfl (fun _ ho => ok_len_sl (q := Sl.a y8) (n := Sl.len y8) (z := Sl.cap y8) ho rfl tu48 (.tmp rfl)) ?_
    refine q_op (dst := some 60) rfl (fun _ ho => ok_ibin ho (.tmp rfl) (.tmp rfl) rfl) ?_
    refine hr_region_end ?_
    try dsimp only [HAct.put, List.set_cons_zero, List.set_cons_succ]
    rcases ifc h with ⟨hc15, h⟩ | ⟨hc15, h⟩
    · refine q_cond_t e61 (.tmp rfl) (decide_eq_true hc15) ?_
      refine q_skipc e62 ?_
      refine q_seq e64 ?_
      refine q_block e65 ?_
      refine q_seq e66 ?_
      refine q_region e67 rfl ?_
      refine q_op (dst := some 63) rfl (fun _ ho => ok_move ho (.tmp rfl)) ?_
      refine q_op (dst := some 64) rfl (fun _ ho => ok_move ho (.tmp rfl)) ?_
      obtain ⟨p16, hp16, h⟩ := bindo h
      refine q_op (dst := some 65) rfl (fun _ ho => ok_indexAddr (s := y8) ho tu48 sz3 (.tmp rfl) (.tmp rfl) hp16) ?_
      obtain ⟨p17, hp17, h⟩ := bindo h
      refine q_op (dst := some 66) rfl (fun _ ho => ok_load_s ho sc3 (.tmp rfl) rfl (ldI_out hp17)) ?_
      try dsimp only [HAct.put, List.set_cons_zero, List.set_cons_succ]
      refine q_op (dst := some 10) rfl (fun _ ho => ok_assign ho (.tmp rfl)) ?_
      refine hr_region_end ?_
      try dsimp only [HAct.put, List.set_cons_zero, List.set_cons_succ]
      refine q_seq e68 ?_
      refine x_start (cls := [0, 0, 0, 0, 0, 0, 0, 0, 0, 0, 0, 1, 1, 0, 0, 0, 0, 0, 0, 0, 0, 0, 0, 0, 1, 1, 1, 1, 0, 0, 1, 1, 0, 0, 0, 0, 0, 0, 1, 1, 1, 1, 0, 0, 1, 1, 0, 0, 0, 0, 0, 1, 1, 0, 0, 0, 0, 0, 0]) (rk := [0, 1, 2, 3, 4, 5, 6, 7, 8, 9, 10, 11, 12, 13, 14, 15, 16, 17, 18, 19, 20, 21, 22, 23, 24, 25, 26, 27, 28, 29, 30, 31, 32, 33, 34, 35, 36, 37, 38, 39, 40, 41, 42, 43, 44, 45, 46, 47, 48, 49, 50, 51, 52, 53, 54, 55, 56, 57, 58]) e69 (by kernel_rfl) ?_
      refine x_go (f_op (dst := some 67) (ts := [10]) rfl (by intro _ _ h; cases h) (by kernel_rfl) (fun _ _ ho => ok_move ho (.tmp rfl))) rfl ?_
      refine x_go (f_op (dst := some 68) (ts := [67]) rfl (by intro _ _ h; cases h) (by kernel_rfl) (fun _ _ ho => ok_ibin ho (.tmp rfl) (.int _ _) rfl)) rfl ?_
      refine x_go (f_op (dst := some 69) (ts := [68]) rfl (by intro _ _ h; cases h) (by kernel_rfl) (fun _ _ ho => ok_move ho (.tmp rfl))) rfl ?_
      rcases ifc h with ⟨hc18, h⟩ | ⟨hc18, h⟩
      · refine x_go (f_skip (dst := some 70) (t := 69) (ts := [10, 69]) rfl (by kernel_rfl) rfl rfl (decide_eq_true hc18)) rfl ?_
        try dsimp only [HAct.put, List.set_cons_zero, List.set_cons_succ]
        refine x_go (f_skip (dst := some 71) (t := 69) (ts := [0, 69]) rfl (by kernel_rfl) rfl rfl (decide_eq_true hc18)) rfl ?_
        refine x_go (f_skip (dst := some 72) (t := 69) (ts := [71, 69]) rfl (by kernel_rfl) rfl rfl (decide_eq_true hc18)) rfl ?_
        refine x_go (f_skip (dst := some 73) (t := 69) (ts := [70, 72, 69]) rfl (by kernel_rfl) rfl rfl (decide_eq_true hc18)) rfl ?_
        refine x_go (f_op (dst := some 74) (ts := [69, 73]) rfl (by intro _ _ h; cases h) (by kernel_rfl) (fun _ _ ho => ok_pick_tt ho (.tmp rfl) (decide_eq_true hc18) (.bool _))) rfl ?_
        try dsimp only [HAct.put, List.set_cons_zero, List.set_cons_succ]
        refine x_go (f_op (dst := some 75) (ts := [74]) rfl (by intro _ _ h; cases h) (by kernel_rfl) (fun _ _ ho => ok_move ho (.tmp rfl))) rfl ?_
        refine x_go (f_skip (dst := some 76) (t := 75) (ts := [0, 75]) rfl (by kernel_rfl) rfl rfl rfl) rfl ?_
        refine x_go (f_skip (dst := some 77) (t := 75) (ts := [10, 75]) rfl (by kernel_rfl) rfl rfl rfl) rfl ?_
        refine x_go (r_skip (dst := some 78) (t := 75) (ts := [76, 77, 75]) rfl (by kernel_rfl) rfl rfl rfl) rfl ?_
        try dsimp only [HAct.put, List.set_cons_zero, List.set_cons_succ]
        refine x_go (r_skip (dst := some 79) (t := 75) (ts := [78, 75]) rfl (by kernel_rfl) rfl rfl rfl) rfl ?_
        refine x_go (f_skip (dst := some 80) (t := 75) (ts := [1, 75]) rfl (by kernel_rfl) rfl rfl rfl) rfl ?_
        refine x_go (f_skip (dst := some 81) (t := 75) (ts := [79, 80, 75]) rfl (by kernel_rfl) rfl rfl rfl) rfl ?_
        refine x_go (f_op (dst := some 82) (ts := [75, 81]) rfl (by intro _ _ h; cases h) (by kernel_rfl) (fun _ _ ho => ok_pick_tt ho (.tmp rfl) rfl (.bool _))) rfl ?_
        try dsimp only [HAct.put, List.set_cons_zero, List.set_cons_succ]
        refine x_go (f_op (dst := some 83) (ts := [82]) rfl (by intro _ _ h; cases h) (by kernel_rfl) (fun _ _ ho => ok_move ho (.tmp rfl))) rfl ?_
        refine x_go (f_skip (dst := some 84) (t := 83) (ts := [9, 83]) rfl (by kernel_rfl) rfl rfl rfl) rfl ?_
        refine x_go (f_skip (dst := some 85) (t := 83) (ts := [84, 83]) rfl (by kernel_rfl) rfl rfl rfl) rfl ?_
        refine x_go (f_skip (dst := some 86) (t := 83) (ts := [85, 83]) rfl (by kernel_rfl) rfl rfl rfl) rfl ?_
        try dsimp only [HAct.put, List.set_cons_zero, List.set_cons_succ]
        refine x_go (f_skip_u (dst := some 87) (t := 86) (ts := [0, 86]) rfl (by kernel_rfl) rfl rfl) rfl ?_
        refine x_go (f_skip_u (dst := some 88) (t := 86) (ts := [8, 86]) rfl (by kernel_rfl) rfl rfl) rfl ?_
        refine x_go (f_skip_u (dst := some 89) (t := 86) (ts := [9, 86]) rfl (by kernel_rfl) rfl rfl) rfl ?_
        refine x_go (f_skip_u (dst := some 90) (t := 86) (ts := [89, 86]) rfl (by kernel_rfl) rfl rfl) rfl ?_
        try dsimp only [HAct.put, List.set_cons_zero, List.set_cons_succ]
        refine x_go (r_skip_u (dst := some 91) (t := 86) (ts := [88, 90, 86]) rfl (by kernel_rfl) rfl rfl) rfl ?_
        refine x_go (r_skip_u (dst := some 92) (t := 86) (ts := [91, 86]) rfl (by kernel_rfl) rfl rfl) rfl ?_
        refine x_go (r_skip_u (dst := some 93) (t := 86) (ts := [87, 92, 86]) rfl (by kernel_rfl) rfl rfl) rfl ?_
        refine x_go (r_skip_u (dst := some 94) (t := 86) (ts := [93, 86]) rfl (by kernel_rfl) rfl rfl) rfl ?_
        try dsimp only [HAct.put, List.set_cons_zero, List.set_cons_succ]
        refine x_go (f_skip_u (dst := some 95) (t := 86) (ts := [0, 86]) rfl (by kernel_rfl) rfl rfl) rfl ?_
        refine x_go (f_skip_u (dst := some 96) (t := 86) (ts := [10, 86]) rfl (by kernel_rfl) rfl rfl) rfl ?_
        refine x_go (r_skip_u (dst := some 97) (t := 86) (ts := [95, 96, 86]) rfl (by kernel_rfl) rfl rfl) rfl ?_
        refine x_go (r_skip_u (dst := some 98) (t := 86) (ts := [97, 86]) rfl (by kernel_rfl) rfl rfl) rfl ?_
        try dsimp only [HAct.put, List.set_cons_zero, List.set_cons_succ]
        refine x_go (f_skip_u (dst := some 99) (t := 86) (ts := [94, 98, 86]) rfl (by kernel_rfl) rfl rfl) rfl ?_
        refine x_go (f_skip_u (dst := some 100) (t := 86) (ts := [99, 86]) rfl (by kernel_rfl) rfl rfl) rfl ?_
        refine x_go (f_skip_u (dst := some 101) (t := 100) (ts := [0, 100]) rfl (by kernel_rfl) rfl rfl) rfl ?_
        refine x_go (f_skip_u (dst := some 102) (t := 100) (ts := [8, 100]) rfl (by kernel_rfl) rfl rfl) rfl ?_
        try dsimp only [HAct.put, List.set_cons_zero, List.set_cons_succ]
        refine x_go (f_skip_u (dst := some 103) (t := 100) (ts := [9, 100]) rfl (by kernel_rfl) rfl rfl) rfl ?_
        refine x_go (f_skip_u (dst := some 104) (t := 100) (ts := [103, 100]) rfl (by kernel_rfl) rfl rfl) rfl ?_
        refine x_go (r_skip_u (dst := some 105) (t := 100) (ts := [102, 104, 100]) rfl (by kernel_rfl) rfl rfl) rfl ?_
        refine x_go (r_skip_u (dst := some 106) (t := 100) (ts := [105, 100]) rfl (by kernel_rfl) rfl rfl) rfl ?_
        try dsimp only [HAct.put, List.set_cons_zero, List.set_cons_succ]
        refine x_go (r_skip_u (dst := some 107) (t := 100) (ts := [101, 106, 100]) rfl (by kernel_rfl) rfl rfl) rfl ?_
        refine x_go (r_skip_u (dst := some 108) (t := 100) (ts := [107, 100]) rfl (by kernel_rfl) rfl rfl) rfl ?_
        refine x_go (f_skip_u (dst := some 109) (t := 100) (ts := [0, 100]) rfl (by kernel_rfl) rfl rfl) rfl ?_
        refine x_go (f_skip_u (dst := some 110) (t := 100) (ts := [10, 100]) rfl (by kernel_rfl) rfl rfl) rfl ?_
        try dsimp only [HAct.put, List.set_cons_zero, List.set_cons_succ]
        refine x_go (r_skip_u (dst := some 111) (t := 100) (ts := [109, 110, 100]) rfl (by kernel_rfl) rfl rfl) rfl ?_
        refine x_go (r_skip_u (dst := some 112) (t := 100) (ts := [111, 100]) rfl (by kernel_rfl) rfl rfl) rfl ?_
        refine x_go (f_skip_u (dst := some 113) (t := 100) (ts := [108, 112, 100]) rfl (by kernel_rfl) rfl rfl) rfl ?_
        refine x_go (f_skip_u (dst := some 114) (t := 100) (ts := [113, 100]) rfl (by kernel_rfl) rfl rfl) rfl ?_
        try dsimp only [HAct.put, List.set_cons_zero, List.set_cons_succ]
        refine x_go (f_skip_u (dst := some 115) (t := 114) (ts := [8, 114]) rfl (by kernel_rfl) rfl rfl) rfl ?_
        refine x_go (f_skip_u (dst := some 116) (t := 114) (ts := [9, 114]) rfl (by kernel_rfl) rfl rfl) rfl ?_
        refine x_go (f_skip_u (dst := some 117) (t := 114) (ts := [116, 114]) rfl (by kernel_rfl) rfl rfl) rfl ?_
        refine x_go (r_skip_u (dst := some 118) (t := 114) (ts := [115, 117, 114]) rfl (by kernel_rfl) rfl rfl) rfl ?_
        try dsimp only [HAct.put, List.set_cons_zero, List.set_cons_succ]
        refine x_go (r_skip_u (dst := some 119) (t := 114) (ts := [118, 114]) rfl (by kernel_rfl) rfl rfl) rfl ?_
        refine x_go (f_skip_u (dst := some 120) (t := 114) (ts := [10, 114]) rfl (by kernel_rfl) rfl rfl) rfl ?_
        refine x_go (f_skip_u (dst := some 121) (t := 114) (ts := [119, 120, 114]) rfl (by kernel_rfl) rfl rfl) rfl ?_
        refine x_go (f_skip_u (dst := some 122) (t := 100) (ts := [114, 121, 100]) rfl (by kernel_rfl) rfl rfl) rfl ?_
        try dsimp only [HAct.put, List.set_cons_zero, List.set_cons_succ]
        refine x_go (f_skip_u (dst := some 123) (t := 86) (ts := [100, 122, 86]) rfl (by kernel_rfl) rfl rfl) rfl ?_
        refine x_go (f_skip (dst := some 124) (t := 83) (ts := [86, 123, 83]) rfl (by kernel_rfl) rfl rfl rfl) rfl ?_
        refine x_go (f_op (dst := some 125) (ts := [83, 124]) rfl (by intro _ _ h; cases h) (by kernel_rfl) (fun _ _ ho => ok_pick_tt ho (.tmp rfl) rfl (.bool _))) rfl ?_
        refine x_rest rfl ?_
        refine hr_region_end ?_
        try dsimp only [HAct.put, List.set_cons_zero, List.set_cons_succ]
        try dsimp only [HAct.put, List.set_cons_zero, List.set_cons_succ]
        exact J4_snd hD hH ih h
      · refine x_go (f_op_g (dst := some 70) (t := 69) (ts := [10, 69]) rfl (by intro _ _ h; cases h) (by kernel_rfl) rfl rfl (decide_eq_false hc18) (fun _ _ ho => ok_move ho (.tmp rfl))) rfl ?_
        try dsimp only [HAct.put, List.set_cons_zero, List.set_cons_succ]
        refine x_go (f_op_g (dst := some 71) (t := 69) (ts := [0, 69]) rfl (by intro _ _ h; cases h) (by kernel_rfl) rfl rfl (decide_eq_false hc18) (fun _ _ ho => ok_move ho (.tmp rfl))) rfl ?_
        refine x_go (f_op_g (dst := some 72) (t := 69) (ts := [71, 69]) rfl (by intro _ _ h; cases h) (by kernel_rfl) rfl rfl (decide_eq_false hc18) (fun _ _ ho => ok_len_sl (q := Sl.a y0) (n := Sl.len y0) (z := Sl.cap y0) ho rfl tu48 (.tmp rfl))) rfl ?_
        refine x_go (f_op_g (dst := some 73) (t := 69) (ts := [70, 72, 69]) rfl (by intro _ _ h; cases h) (by kernel_rfl) rfl rfl (decide_eq_false hc18) (fun _ _ ho => ok_ibin ho (.tmp rfl) (.tmp rfl) rfl)) rfl ?_
        refine x_go (f_op (dst := some 74) (ts := [69, 73]) rfl (by intro _ _ h; cases h) (by kernel_rfl) (fun _ _ ho => ok_pick_ff ho (.tmp rfl) (decide_eq_false hc18) (.tmp rfl))) rfl ?_
        try dsimp only [HAct.put, List.set_cons_zero, List.set_cons_succ]
        refine x_go (f_op (dst := some 75) (ts := [74]) rfl (by intro _ _ h; cases h) (by kernel_rfl) (fun _ _ ho => ok_move ho (.tmp rfl))) rfl ?_
        rcases ifc h with ⟨hc20, h⟩ | ⟨hc20, h⟩
        · refine x_go (f_skip (dst := some 76) (t := 75) (ts := [0, 75]) rfl (by kernel_rfl) rfl rfl (decide_eq_true hc20)) rfl ?_
          refine x_go (f_skip (dst := some 77) (t := 75) (ts := [10, 75]) rfl (by kernel_rfl) rfl rfl (decide_eq_true hc20)) rfl ?_
          refine x_go (r_skip (dst := some 78) (t := 75) (ts := [76, 77, 75]) rfl (by kernel_rfl) rfl rfl (decide_eq_true hc20)) rfl ?_
          try dsimp only [HAct.put, List.set_cons_zero, List.set_cons_succ]
          refine x_go (r_skip (dst := some 79) (t := 75) (ts := [78, 75]) rfl (by kernel_rfl) rfl rfl (decide_eq_true hc20)) rfl ?_
          refine x_go (f_skip (dst := some 80) (t := 75) (ts := [1, 75]) rfl (by kernel_rfl) rfl rfl (decide_eq_true hc20)) rfl ?_
          refine x_go (f_skip (dst := some 81) (t := 75) (ts := [79, 80, 75]) rfl (by kernel_rfl) rfl rfl (decide_eq_true hc20)) rfl ?_
          refine x_go (f_op (dst := some 82) (ts := [75, 81]) rfl (by intro _ _ h; cases h) (by kernel_rfl) (fun _ _ ho => ok_pick_tt ho (.tmp rfl) (decide_eq_true hc20) (.bool _))) rfl ?_
          try dsimp only [HAct.put, List.set_cons_zero, List.set_cons_succ]
          refine x_go (f_op (dst := some 83) (ts := [82]) rfl (by intro _ _ h; cases h) (by kernel_rfl) (fun _ _ ho => ok_move ho (.tmp rfl))) rfl ?_
          refine x_go (f_skip (dst := some 84) (t := 83) (ts := [9, 83]) rfl (by kernel_rfl) rfl rfl rfl) rfl ?_
          refine x_go (f_skip (dst := some 85) (t := 83) (ts := [84, 83]) rfl (by kernel_rfl) rfl rfl rfl) rfl ?_
          refine x_go (f_skip (dst := some 86) (t := 83) (ts := [85, 83]) rfl (by kernel_rfl) rfl rfl rfl) rfl ?_
          try dsimp only [HAct.put, List.set_cons_zero, List.set_cons_succ]
          refine x_go (f_skip_u (dst := some 87) (t := 86) (ts := [0, 86]) rfl (by kernel_rfl) rfl rfl) rfl ?_
          refine x_go (f_skip_u (dst := some 88) (t := 86) (ts := [8, 86]) rfl (by kernel_rfl) rfl rfl) rfl ?_
          refine x_go (f_skip_u (dst := some 89) (t := 86) (ts := [9, 86]) rfl (by kernel_rfl) rfl rfl) rfl ?_
          refine x_go (f_skip_u (dst := some 90) (t := 86) (ts := [89, 86]) rfl (by kernel_rfl) rfl rfl) rfl ?_
          try dsimp only [HAct.put, List.set_cons_zero, List.set_cons_succ]
          refine x_go (r_skip_u (dst := some 91) (t := 86) (ts := [88, 90, 86]) rfl (by kernel_rfl) rfl rfl) rfl ?_
          refine x_go (r_skip_u (dst := some 92) (t := 86) (ts := [91, 86]) rfl (by kernel_rfl) rfl rfl) rfl ?_
          refine x_go (r_skip_u (dst := some 93) (t := 86) (ts := [87, 92, 86]) rfl (by kernel_rfl) rfl rfl) rfl ?_
          refine x_go (r_skip_u (dst := some 94) (t := 86) (ts := [93, 86]) rfl (by kernel_rfl) rfl rfl) rfl ?_
          try dsimp only [HAct.put, List.set_cons_zero, List.set_cons_succ]
          refine x_go (f_skip_u (dst := some 95) (t := 86) (ts := [0, 86]) rfl (by kernel_rfl) rfl rfl) rfl ?_
          refine x_go (f_skip_u (dst := some 96) (t := 86) (ts := [10, 86]) rfl (by kernel_rfl) rfl rfl) rfl ?_
          refine x_go (r_skip_u (dst := some 97) (t := 86) (ts := [95, 96, 86]) rfl (by kernel_rfl) rfl rfl) rfl ?_
          refine x_go (r_skip_u (dst := some 98) (t := 86) (ts := [97, 86]) rfl (by kernel_rfl) rfl rfl) rfl ?_
          try dsimp only [HAct.put, List.set_cons_zero, List.set_cons_succ]
          refine x_go (f_skip_u (dst := some 99) (t := 86) (ts := [94, 98, 86]) rfl (by kernel_rfl) rfl rfl) rfl ?_
          refine x_go (f_skip_u (dst := some 100) (t := 86) (ts := [99, 86]) rfl (by kernel_rfl) rfl rfl) rfl ?_
          refine x_go (f_skip_u (dst := some 101) (t := 100) (ts := [0, 100]) rfl (by kernel_rfl) rfl rfl) rfl ?_
          refine x_go (f_skip_u (dst := some 102) (t := 100) (ts := [8, 100]) rfl (by kernel_rfl) rfl rfl) rfl ?_
          try dsimp only [HAct.put, List.set_cons_zero, List.set_cons_succ]
          refine x_go (f_skip_u (dst := some 103) (t := 100) (ts := [9, 100]) rfl (by kernel_rfl) rfl rfl) rfl ?_
          refine x_go (f_skip_u (dst := some 104) (t := 100) (ts := [103, 100]) rfl (by kernel_rfl) rfl rfl) rfl ?_
          refine x_go (r_skip_u (dst := some 105) (t := 100) (ts := [102, 104, 100]) rfl (by kernel_rfl) rfl rfl) rfl ?_
          refine x_go (r_skip_u (dst := some 106) (t := 100) (ts := [105, 100]) rfl (by kernel_rfl) rfl rfl) rfl ?_
          try dsimp only [HAct.put, List.set_cons_zero, List.set_cons_succ]
          refine x_go (r_skip_u (dst := some 107) (t := 100) (ts := [101, 106, 100]) rfl (by kernel_rfl) rfl rfl) rfl ?_
          refine x_go (r_skip_u (dst := some 108) (t := 100) (ts := [107, 100]) rfl (by kernel_rfl) rfl rfl) rfl ?_
          refine x_go (f_skip_u (dst := some 109) (t := 100) (ts := [0, 100]) rfl (by kernel_rfl) rfl rfl) rfl ?_
          refine x_go (f_skip_u (dst := some 110) (t := 100) (ts := [10, 100]) rfl (by kernel_rfl) rfl rfl) rfl ?_
          try dsimp only [HAct.put, List.set_cons_zero, List.set_cons_succ]
          refine x_go (r_skip_u (dst := some 111) (t := 100) (ts := [109, 110, 100]) rfl (by kernel_rfl) rfl rfl) rfl ?_
          refine x_go (r_skip_u (dst := some 112) (t := 100) (ts := [111, 100]) rfl (by kernel_rfl) rfl rfl) rfl ?_
          refine x_go (f_skip_u (dst := some 113) (t := 100) (ts := [108, 112, 100]) rfl (by kernel_rfl) rfl rfl) rfl ?_
          refine x_go (f_skip_u (dst := some 114) (t := 100) (ts := [113, 100]) rfl (by kernel_rfl) rfl rfl) rfl ?_
          try dsimp only [HAct.put, List.set_cons_zero, List.set_cons_succ]
          refine x_go (f_skip_u (dst := some 115) (t := 114) (ts := [8, 114]) rfl (by kernel_rfl) rfl rfl) rfl ?_
          refine x_go (f_skip_u (dst := some 116) (t := 114) (ts := [9, 114]) rfl (by kernel_rfl) rfl rfl) rfl ?_
          refine x_go (f_skip_u (dst := some 117) (t := 114) (ts := [116, 114]) rfl (by kernel_rfl) rfl rfl) rfl ?_
          refine x_go (r_skip_u (dst := some 118) (t := 114) (ts := [115, 117, 114]) rfl (by kernel_rfl) rfl rfl) rfl ?_
          try dsimp only [HAct.put, List.set_cons_zero, List.set_cons_succ]
          refine x_go (r_skip_u (dst := some 119) (t := 114) (ts := [118, 114]) rfl (by kernel_rfl) rfl rfl) rfl ?_
          refine x_go (f_skip_u (dst := some 120) (t := 114) (ts := [10, 114]) rfl (by kernel_rfl) rfl rfl) rfl ?_
          refine x_go (f_skip_u (dst := some 121) (t := 114) (ts := [119, 120, 114]) rfl (by kernel_rfl) rfl rfl) rfl ?_
          refine x_go (f_skip_u (dst := some 122) (t := 100) (ts := [114, 121, 100]) rfl (by kernel_rfl) rfl rfl) rfl ?_
          try dsimp only [HAct.put, List.set_cons_zero, List.set_cons_succ]
          refine x_go (f_skip_u (dst := some 123) (t := 86) (ts := [100, 122, 86]) rfl (by kernel_rfl) rfl rfl) rfl ?_
          refine x_go (f_skip (dst := some 124) (t := 83) (ts := [86, 123, 83]) rfl (by kernel_rfl) rfl rfl rfl) rfl ?_
          refine x_go (f_op (dst := some 125) (ts := [83, 124]) rfl (by intro _ _ h; cases h) (by kernel_rfl) (fun _ _ ho => ok_pick_tt ho (.tmp rfl) rfl (.bool _))) rfl ?_
          refine x_rest rfl ?_
          refine hr_region_end ?_
          try dsimp only [HAct.put, List.set_cons_zero, List.set_cons_succ]
          try dsimp only [HAct.put, List.set_cons_zero, List.set_cons_succ]
          exact J4_snd hD hH ih h
        · refine x_go (f_op_g (dst := some 76) (t := 75) (ts := [0, 75]) rfl (by intro _ _ h; cases h) (by kernel_rfl) rfl rfl (decide_eq_false hc20) (fun _ _ ho => ok_move ho (.tmp rfl))) rfl ?_
          refine x_go (f_op_g (dst := some 77) (t := 75) (ts := [10, 75]) rfl (by intro _ _ h; cases h) (by kernel_rfl) rfl rfl (decide_eq_false hc20) (fun _ _ ho => ok_move ho (.tmp rfl))) rfl ?_
          obtain ⟨p21, hp21, h⟩ := bindo h
          refine x_go (r_op_g (dst := some 78) (t := 75) (ts := [76, 77, 75]) rfl (by intro _ _ h; cases h) (by kernel_rfl) rfl rfl (decide_eq_false hc20) (fun _ ho => ok_indexAddr (s := y0) ho tu48 sz3 (.tmp rfl) (.tmp rfl) hp21)) rfl ?_
          try dsimp only [HAct.put, List.set_cons_zero, List.set_cons_succ]
          obtain ⟨p22, hp22, h⟩ := bindo h
          refine x_go (r_op_g (dst := some 79) (t := 75) (ts := [78, 75]) rfl (by intro _ _ h; cases h) (by kernel_rfl) rfl rfl (decide_eq_false hc20) (fun _ ho => ok_load_s ho sc3 (.tmp rfl) rfl (ldI_out hp22))) rfl ?_
          refine x_go (f_op_g (dst := some 80) (t := 75) (ts := [1, 75]) rfl (by intro _ _ h; cases h) (by kernel_rfl) rfl rfl (decide_eq_false hc20) (fun _ _ ho => ok_move ho (.tmp rfl))) rfl ?_
          refine x_go (f_op_g (dst := some 81) (t := 75) (ts := [79, 80, 75]) rfl (by intro _ _ h; cases h) (by kernel_rfl) rfl rfl (decide_eq_false hc20) (fun _ _ ho => ok_ibin ho (.tmp rfl) (.tmp rfl) rfl)) rfl ?_
          refine x_go (f_op (dst := some 82) (ts := [75, 81]) rfl (by intro _ _ h; cases h) (by kernel_rfl) (fun _ _ ho => ok_pick_ff ho (.tmp rfl) (decide_eq_false hc20) (.tmp rfl))) rfl ?_
          try dsimp only [HAct.put, List.set_cons_zero, List.set_cons_succ]
          refine x_go (f_op (dst := some 83) (ts := [82]) rfl (by intro _ _ h; cases h) (by kernel_rfl) (fun _ _ ho => ok_move ho (.tmp rfl))) rfl ?_
          rcases ifc h with ⟨hc23, h⟩ | ⟨hc23, h⟩
          · refine x_go (f_skip (dst := some 84) (t := 83) (ts := [9, 83]) rfl (by kernel_rfl) rfl rfl (decide_eq_true hc23)) rfl ?_
            refine x_go (f_skip (dst := some 85) (t := 83) (ts := [84, 83]) rfl (by kernel_rfl) rfl rfl (decide_eq_true hc23)) rfl ?_
            refine x_go (f_skip (dst := some 86) (t := 83) (ts := [85, 83]) rfl (by kernel_rfl) rfl rfl (decide_eq_true hc23)) rfl ?_
            try dsimp only [HAct.put, List.set_cons_zero, List.set_cons_succ]
            refine x_go (f_skip_u (dst := some 87) (t := 86) (ts := [0, 86]) rfl (by kernel_rfl) rfl rfl) rfl ?_
            refine x_go (f_skip_u (dst := some 88) (t := 86) (ts := [8, 86]) rfl (by kernel_rfl) rfl rfl) rfl ?_
            refine x_go (f_skip_u (dst := some 89) (t := 86) (ts := [9, 86]) rfl (by kernel_rfl) rfl rfl) rfl ?_
            refine x_go (f_skip_u (dst := some 90) (t := 86) (ts := [89, 86]) rfl (by kernel_rfl) rfl rfl) rfl ?_
            try dsimp only [HAct.put, List.set_cons_zero, List.set_cons_succ]
            refine x_go (r_skip_u (dst := some 91) (t := 86) (ts := [88, 90, 86]) rfl (by kernel_rfl) rfl rfl) rfl ?_
            refine x_go (r_skip_u (dst := some 92) (t := 86) (ts := [91, 86]) rfl (by kernel_rfl) rfl rfl) rfl ?_
            refine x_go (r_skip_u (dst := some 93) (t := 86) (ts := [87, 92, 86]) rfl (by kernel_rfl) rfl rfl) rfl ?_
            refine x_go (r_skip_u (dst := some 94) (t := 86) (ts := [93, 86]) rfl (by kernel_rfl) rfl rfl) rfl ?_
            try dsimp only [HAct.put, List.set_cons_zero, List.set_cons_succ]
            refine x_go (f_skip_u (dst := some 95) (t := 86) (ts := [0, 86]) rfl (by kernel_rfl) rfl rfl) rfl ?_
            refine x_go (f_skip_u (dst := some 96) (t := 86) (ts := [10, 86]) rfl (by kernel_rfl) rfl rfl) rfl ?_
            refine x_go (r_skip_u (dst := some 97) (t := 86) (ts := [95, 96, 86]) rfl (by kernel_rfl) rfl rfl) rfl ?_
            refine x_go (r_skip_u (dst := some 98) (t := 86) (ts := [97, 86]) rfl (by kernel_rfl) rfl rfl) rfl ?_
            try dsimp only [HAct.put, List.set_cons_zero, List.set_cons_succ]
            refine x_go (f_skip_u (dst := some 99) (t := 86) (ts := [94, 98, 86]) rfl (by kernel_rfl) rfl rfl) rfl ?_
            refine x_go (f_skip_u (dst := some 100) (t := 86) (ts := [99, 86]) rfl (by kernel_rfl) rfl rfl) rfl ?_
            refine x_go (f_skip_u (dst := some 101) (t := 100) (ts := [0, 100]) rfl (by kernel_rfl) rfl rfl) rfl ?_
            refine x_go (f_skip_u (dst := some 102) (t := 100) (ts := [8, 100]) rfl (by kernel_rfl) rfl rfl) rfl ?_
            try dsimp only [HAct.put, List.set_cons_zero, List.set_cons_succ]
            refine x_go (f_skip_u (dst := some 103) (t := 100) (ts := [9, 100]) rfl (by kernel_rfl) rfl rfl) rfl ?_
            refine x_go (f_skip_u (dst := some 104) (t := 100) (ts := [103, 100]) rfl (by kernel_rfl) rfl rfl) rfl ?_
            refine x_go (r_skip_u (dst := some 105) (t := 100) (ts := [102, 104, 100]) rfl (by kernel_rfl) rfl rfl) rfl ?_
            refine x_go (r_skip_u (dst := some 106) (t := 100) (ts := [105, 100]) rfl (by kernel_rfl) rfl rfl) rfl ?_
            try dsimp only [HAct.put, List.set_cons_zero, List.set_cons_succ]
            refine x_go (r_skip_u (dst := some 107) (t := 100) (ts := [101, 106, 100]) rfl (by kernel_rfl) rfl rfl) rfl ?_
            refine x_go (r_skip_u (dst := some 108) (t := 100) (ts := [107, 100]) rfl (by kernel_rfl) rfl rfl) rfl ?_
            refine x_go (f_skip_u (dst := some 109) (t := 100) (ts := [0, 100]) rfl (by kernel_rfl) rfl rfl) rfl ?_
            refine x_go (f_skip_u (dst := some 110) (t := 100) (ts := [10, 100]) rfl (by kernel_rfl) rfl rfl) rfl ?_
            try dsimp only [HAct.put, List.set_cons_zero, List.set_cons_succ]
            refine x_go (r_skip_u (dst := some 111) (t := 100) (ts := [109, 110, 100]) rfl (by kernel_rfl) rfl rfl) rfl ?_
            refine x_go (r_skip_u (dst := some 112) (t := 100) (ts := [111, 100]) rfl (by kernel_rfl) rfl rfl) rfl ?_
            refine x_go (f_skip_u (dst := some 113) (t := 100) (ts := [108, 112, 100]) rfl (by kernel_rfl) rfl rfl) rfl ?_
            refine x_go (f_skip_u (dst := some 114) (t := 100) (ts := [113, 100]) rfl (by kernel_rfl) rfl rfl) rfl ?_
            try dsimp only [HAct.put, List.set_cons_zero, List.set_cons_succ]
            refine x_go (f_skip_u (dst := some 115) (t := 114) (ts := [8, 114]) rfl (by kernel_rfl) rfl rfl) rfl ?_
            refine x_go (f_skip_u (dst := some 116) (t := 114) (ts := [9, 114]) rfl (by kernel_rfl) rfl rfl) rfl ?_
            refine x_go (f_skip_u (dst := some 117) (t := 114) (ts := [116, 114]) rfl (by kernel_rfl) rfl rfl) rfl ?_
            refine x_go (r_skip_u (dst := some 118) (t := 114) (ts := [115, 117, 114]) rfl (by kernel_rfl) rfl rfl) rfl ?_
            try dsimp only [HAct.put, List.set_cons_zero, List.set_cons_succ]
            refine x_go (r_skip_u (dst := some 119) (t := 114) (ts := [118, 114]) rfl (by kernel_rfl) rfl rfl) rfl ?_
            refine x_go (f_skip_u (dst := some 120) (t := 114) (ts := [10, 114]) rfl (by kernel_rfl) rfl rfl) rfl ?_
            refine x_go (f_skip_u (dst := some 121) (t := 114) (ts := [119, 120, 114]) rfl (by kernel_rfl) rfl rfl) rfl ?_
            refine x_go (f_skip_u (dst := some 122) (t := 100) (ts := [114, 121, 100]) rfl (by kernel_rfl) rfl rfl) rfl ?_
            try dsimp only [HAct.put, List.set_cons_zero, List.set_cons_succ]
            refine x_go (f_skip_u (dst := some 123) (t := 86) (ts := [100, 122, 86]) rfl (by kernel_rfl) rfl rfl) rfl ?_
            refine x_go (f_skip (dst := some 124) (t := 83) (ts := [86, 123, 83]) rfl (by kernel_rfl) rfl rfl (decide_eq_true hc23)) rfl ?_
            refine x_go (f_op (dst := some 125) (ts := [83, 124]) rfl (by intro _ _ h; cases h) (by kernel_rfl) (fun _ _ ho => ok_pick_tt ho (.tmp rfl) (decide_eq_true hc23) (.bool _))) rfl ?_
            refine x_rest rfl ?_
            refine hr_region_end ?_
            try dsimp only [HAct.put, List.set_cons_zero, List.set_cons_succ]
            try dsimp only [HAct.put, List.set_cons_zero, List.set_cons_succ]
            exact J4_snd hD hH ih h
          · refine x_go (f_op_g (dst := some 84) (t := 83) (ts := [9, 83]) rfl (by intro _ _ h; cases h) (by kernel_rfl) rfl rfl (decide_eq_false hc23) (fun _ _ ho => ok_move ho (.tmp rfl))) rfl ?_
            refine x_go (f_op_g (dst := some 85) (t := 83) (ts := [84, 83]) rfl (by intro _ _ h; cases h) (by kernel_rfl) rfl rfl (decide_eq_false hc23) (fun _ _ ho => ok_ibin ho (.tmp rfl) (.int _ _) rfl)) rfl ?_
            refine x_go (f_op_g (dst := some 86) (t := 83) (ts := [85, 83]) rfl (by intro _ _ h; cases h) (by kernel_rfl) rfl rfl (decide_eq_false hc23) (fun _ _ ho => ok_move ho (.tmp rfl))) rfl ?_
            try dsimp only [HAct.put, List.set_cons_zero, List.set_cons_succ]
            rcases ifc h with ⟨hc24, h⟩ | ⟨hc24, h⟩
            · refine x_go (f_op_g (dst := some 87) (t := 86) (ts := [0, 86]) rfl (by intro _ _ h; cases h) (by kernel_rfl) rfl rfl (decide_eq_true hc24) (fun _ _ ho => ok_move ho (.tmp rfl))) rfl ?_
              refine x_go (f_op_g (dst := some 88) (t := 86) (ts := [8, 86]) rfl (by intro _ _ h; cases h) (by kernel_rfl) rfl rfl (decide_eq_true hc24) (fun _ _ ho => ok_move ho (.tmp rfl))) rfl ?_
              refine x_go (f_op_g (dst := some 89) (t := 86) (ts := [9, 86]) rfl (by intro _ _ h; cases h) (by kernel_rfl) rfl rfl (decide_eq_true hc24) (fun _ _ ho => ok_move ho (.tmp rfl))) rfl ?_
              refine x_go (f_op_g (dst := some 90) (t := 86) (ts := [89, 86]) rfl (by intro _ _ h; cases h) (by kernel_rfl) rfl rfl (decide_eq_true hc24) (fun _ _ ho => ok_ibin ho (.tmp rfl) (.int _ _) rfl)) rfl ?_
              try dsimp only [HAct.put, List.set_cons_zero, List.set_cons_succ]
              obtain ⟨p25, hp25, h⟩ := bindo h
              refine x_go (r_op_g (dst := some 91) (t := 86) (ts := [88, 90, 86]) rfl (by intro _ _ h; cases h) (by kernel_rfl) rfl rfl (decide_eq_true hc24) (fun _ ho => ok_indexAddr (s := y8) ho tu48 sz3 (.tmp rfl) (.tmp rfl) hp25)) rfl ?_
              obtain ⟨p26, hp26, h⟩ := bindo h
              refine x_go (r_op_g (dst := some 92) (t := 86) (ts := [91, 86]) rfl (by intro _ _ h; cases h) (by kernel_rfl) rfl rfl (decide_eq_true hc24) (fun _ ho => ok_load_s ho sc3 (.tmp rfl) rfl (ldI_out hp26))) rfl ?_
              obtain ⟨p27, hp27, h⟩ := bindo h
              refine x_go (r_op_g (dst := some 93) (t := 86) (ts := [87, 92, 86]) rfl (by intro _ _ h; cases h) (by kernel_rfl) rfl rfl (decide_eq_true hc24) (fun _ ho => ok_indexAddr (s := y0) ho tu48 sz3 (.tmp rfl) (.tmp rfl) hp27)) rfl ?_
              obtain ⟨p28, hp28, h⟩ := bindo h
              refine x_go (r_op_g (dst := some 94) (t := 86) (ts := [93, 86]) rfl (by intro _ _ h; cases h) (by kernel_rfl) rfl rfl (decide_eq_true hc24) (fun _ ho => ok_load_s ho sc3 (.tmp rfl) rfl (ldI_out hp28))) rfl ?_
              try dsimp only [HAct.put, List.set_cons_zero, List.set_cons_succ]
              refine x_go (f_op_g (dst := some 95) (t := 86) (ts := [0, 86]) rfl (by intro _ _ h; cases h) (by kernel_rfl) rfl rfl (decide_eq_true hc24) (fun _ _ ho => ok_move ho (.tmp rfl))) rfl ?_
              refine x_go (f_op_g (dst := some 96) (t := 86) (ts := [10, 86]) rfl (by intro _ _ h; cases h) (by kernel_rfl) rfl rfl (decide_eq_true hc24) (fun _ _ ho => ok_move ho (.tmp rfl))) rfl ?_
              obtain ⟨p29, hp29, h⟩ := bindo h
              refine x_go (r_op_g (dst := some 97) (t := 86) (ts := [95, 96, 86]) rfl (by intro _ _ h; cases h) (by kernel_rfl) rfl rfl (decide_eq_true hc24) (fun _ ho => ok_indexAddr (s := y0) ho tu48 sz3 (.tmp rfl) (.tmp rfl) hp29)) rfl ?_
              obtain ⟨p30, hp30, h⟩ := bindo h
              refine x_go (r_op_g (dst := some 98) (t := 86) (ts := [97, 86]) rfl (by intro _ _ h; cases h) (by kernel_rfl) rfl rfl (decide_eq_true hc24) (fun _ ho => ok_load_s ho sc3 (.tmp rfl) rfl (ldI_out hp30))) rfl ?_
              try dsimp only [HAct.put, List.set_cons_zero, List.set_cons_succ]
              refine x_go (f_op_g (dst := some 99) (t := 86) (ts := [94, 98, 86]) rfl (by intro _ _ h; cases h) (by kernel_rfl) rfl rfl (decide_eq_true hc24) (fun _ _ ho => ok_ibin ho (.tmp rfl) (.tmp rfl) rfl)) rfl ?_
              refine x_go (f_op_g (dst := some 100) (t := 86) (ts := [99, 86]) rfl (by intro _ _ h; cases h) (by kernel_rfl) rfl rfl (decide_eq_true hc24) (fun _ _ ho => ok_move ho (.tmp rfl))) rfl ?_
              rcases ifc h with ⟨hc31, h⟩ | ⟨hc31, h⟩
              · refine x_go (f_skip (dst := some 101) (t := 100) (ts := [0, 100]) rfl (by kernel_rfl) rfl rfl (decide_eq_true hc31)) rfl ?_
                refine x_go (f_skip (dst := some 102) (t := 100) (ts := [8, 100]) rfl (by kernel_rfl) rfl rfl (decide_eq_true hc31)) rfl ?_
                try dsimp only [HAct.put, List.set_cons_zero, List.set_cons_succ]
                refine x_go (f_skip (dst := some 103) (t := 100) (ts := [9, 100]) rfl (by kernel_rfl) rfl rfl (decide_eq_true hc31)) rfl ?_
                refine x_go (f_skip (dst := some 104) (t := 100) (ts := [103, 100]) rfl (by kernel_rfl) rfl rfl (decide_eq_true hc31)) rfl ?_
                refine x_go (r_skip (dst := some 105) (t := 100) (ts := [102, 104, 100]) rfl (by kernel_rfl) rfl rfl (decide_eq_true hc31)) rfl ?_
                refine x_go (r_skip (dst := some 106) (t := 100) (ts := [105, 100]) rfl (by kernel_rfl) rfl rfl (decide_eq_true hc31)) rfl ?_
                try dsimp only [HAct.put, List.set_cons_zero, List.set_cons_succ]
                refine x_go (r_skip (dst := some 107) (t := 100) (ts := [101, 106, 100]) rfl (by kernel_rfl) rfl rfl (decide_eq_true hc31)) rfl ?_
                refine x_go (r_skip (dst := some 108) (t := 100) (ts := [107, 100]) rfl (by kernel_rfl) rfl rfl (decide_eq_true hc31)) rfl ?_
                refine x_go (f_skip (dst := some 109) (t := 100) (ts := [0, 100]) rfl (by kernel_rfl) rfl rfl (decide_eq_true hc31)) rfl ?_
                refine x_go (f_skip (dst := some 110) (t := 100) (ts := [10, 100]) rfl (by kernel_rfl) rfl rfl (decide_eq_true hc31)) rfl ?_
                try dsimp only [HAct.put, List.set_cons_zero, List.set_cons_succ]
                refine x_go (r_skip (dst := some 111) (t := 100) (ts := [109, 110, 100]) rfl (by kernel_rfl) rfl rfl (decide_eq_true hc31)) rfl ?_
                refine x_go (r_skip (dst := some 112) (t := 100) (ts := [111, 100]) rfl (by kernel_rfl) rfl rfl (decide_eq_true hc31)) rfl ?_
                refine x_go (f_skip (dst := some 113) (t := 100) (ts := [108, 112, 100]) rfl (by kernel_rfl) rfl rfl (decide_eq_true hc31)) rfl ?_
                refine x_go (f_skip (dst := some 114) (t := 100) (ts := [113, 100]) rfl (by kernel_rfl) rfl rfl (decide_eq_true hc31)) rfl ?_
                try dsimp only [HAct.put, List.set_cons_zero, List.set_cons_succ]
                refine x_go (f_skip_u (dst := some 115) (t := 114) (ts := [8, 114]) rfl (by kernel_rfl) rfl rfl) rfl ?_
                refine x_go (f_skip_u (dst := some 116) (t := 114) (ts := [9, 114]) rfl (by kernel_rfl) rfl rfl) rfl ?_
                refine x_go (f_skip_u (dst := some 117) (t := 114) (ts := [116, 114]) rfl (by kernel_rfl) rfl rfl) rfl ?_
                refine x_go (r_skip_u (dst := some 118) (t := 114) (ts := [115, 117, 114]) rfl (by kernel_rfl) rfl rfl) rfl ?_
                try dsimp only [HAct.put, List.set_cons_zero, List.set_cons_succ]
                refine x_go (r_skip_u (dst := some 119) (t := 114) (ts := [118, 114]) rfl (by kernel_rfl) rfl rfl) rfl ?_
                refine x_go (f_skip_u (dst := some 120) (t := 114) (ts := [10, 114]) rfl (by kernel_rfl) rfl rfl) rfl ?_
                refine x_go (f_skip_u (dst := some 121) (t := 114) (ts := [119, 120, 114]) rfl (by kernel_rfl) rfl rfl) rfl ?_
                refine x_go (f_skip (dst := some 122) (t := 100) (ts := [114, 121, 100]) rfl (by kernel_rfl) rfl rfl (decide_eq_true hc31)) rfl ?_
                try dsimp only [HAct.put, List.set_cons_zero, List.set_cons_succ]
                refine x_go (f_op_g (dst := some 123) (t := 86) (ts := [100, 122, 86]) rfl (by intro _ _ h; cases h) (by kernel_rfl) rfl rfl (decide_eq_true hc24) (fun _ _ ho => ok_pick_tt ho (.tmp rfl) (decide_eq_true hc31) (.bool _))) rfl ?_
                refine x_go (f_op_g (dst := some 124) (t := 83) (ts := [86, 123, 83]) rfl (by intro _ _ h; cases h) (by kernel_rfl) rfl rfl (decide_eq_false hc23) (fun _ _ ho => ok_pick_tt ho (.tmp rfl) (decide_eq_true hc24) (.tmp rfl))) rfl ?_
                refine x_go (f_op (dst := some 125) (ts := [83, 124]) rfl (by intro _ _ h; cases h) (by kernel_rfl) (fun _ _ ho => ok_pick_ff ho (.tmp rfl) (decide_eq_false hc23) (.tmp rfl))) rfl ?_
                refine x_rest rfl ?_
                refine hr_region_end ?_
                try dsimp only [HAct.put, List.set_cons_zero, List.set_cons_succ]
                try dsimp only [HAct.put, List.set_cons_zero, List.set_cons_succ]
                exact J4_snd hD hH ih h
              · refine x_go (f_op_g (dst := some 101) (t := 100) (ts := [0, 100]) rfl (by intro _ _ h; cases h) (by kernel_rfl) rfl rfl (decide_eq_false hc31) (fun _ _ ho => ok_move ho (.tmp rfl))) rfl ?_
                refine x_go (f_op_g (dst := some 102) (t := 100) (ts := [8, 100]) rfl (by intro _ _ h; cases h) (by kernel_rfl) rfl rfl (decide_eq_false hc31) (fun _ _ ho => ok_move ho (.tmp rfl))) rfl ?_
                try dsimp only [HAct.put, List.set_cons_zero, List.set_cons_succ]
                refine x_go (f_op_g (dst := some 103) (t := 100) (ts := [9, 100]) rfl (by intro _ _ h; cases h) (by kernel_rfl) rfl rfl (decide_eq_false hc31) (fun _ _ ho => ok_move ho (.tmp rfl))) rfl ?_
                refine x_go (f_op_g (dst := some 104) (t := 100) (ts := [103, 100]) rfl (by intro _ _ h; cases h) (by kernel_rfl) rfl rfl (decide_eq_false hc31) (fun _ _ ho => ok_ibin ho (.tmp rfl) (.int _ _) rfl)) rfl ?_
                obtain ⟨p32, hp32, h⟩ := bindo h
                refine x_go (r_op_g (dst := some 105) (t := 100) (ts := [102, 104, 100]) rfl (by intro _ _ h; cases h) (by kernel_rfl) rfl rfl (decide_eq_false hc31) (fun _ ho => ok_indexAddr (s := y8) ho tu48 sz3 (.tmp rfl) (.tmp rfl) hp32)) rfl ?_
                obtain ⟨p33, hp33, h⟩ := bindo h
                refine x_go (r_op_g (dst := some 106) (t := 100) (ts := [105, 100]) rfl (by intro _ _ h; cases h) (by kernel_rfl) rfl rfl (decide_eq_false hc31) (fun _ ho => ok_load_s ho sc3 (.tmp rfl) rfl (ldI_out hp33))) rfl ?_
                try dsimp only [HAct.put, List.set_cons_zero, List.set_cons_succ]
                obtain ⟨p34, hp34, h⟩ := bindo h
                refine x_go (r_op_g (dst := some 107) (t := 100) (ts := [101, 106, 100]) rfl (by intro _ _ h; cases h) (by kernel_rfl) rfl rfl (decide_eq_false hc31) (fun _ ho => ok_indexAddr (s := y0) ho tu48 sz3 (.tmp rfl) (.tmp rfl) hp34)) rfl ?_
                obtain ⟨p35, hp35, h⟩ := bindo h
                refine x_go (r_op_g (dst := some 108) (t := 100) (ts := [107, 100]) rfl (by intro _ _ h; cases h) (by kernel_rfl) rfl rfl (decide_eq_false hc31) (fun _ ho => ok_load_s ho sc3 (.tmp rfl) rfl (ldI_out hp35))) rfl ?_
                refine x_go (f_op_g (dst := some 109) (t := 100) (ts := [0, 100]) rfl (by intro _ _ h; cases h) (by kernel_rfl) rfl rfl (decide_eq_false hc31) (fun _ _ ho => ok_move ho (.tmp rfl))) rfl ?_
                refine x_go (f_op_g (dst := some 110) (t := 100) (ts := [10, 100]) rfl (by intro _ _ h; cases h) (by kernel_rfl) rfl rfl (decide_eq_false hc31) (fun _ _ ho => ok_move ho (.tmp rfl))) rfl ?_
                try dsimp only [HAct.put, List.set_cons_zero, List.set_cons_succ]
                obtain ⟨p36, hp36, h⟩ := bindo h
                refine x_go (r_op_g (dst := some 111) (t := 100) (ts := [109, 110, 100]) rfl (by intro _ _ h; cases h) (by kernel_rfl) rfl rfl (decide_eq_false hc31) (fun _ ho => ok_indexAddr (s := y0) ho tu48 sz3 (.tmp rfl) (.tmp rfl) hp36)) rfl ?_
                obtain ⟨p37, hp37, h⟩ := bindo h
                refine x_go (r_op_g (dst := some 112) (t := 100) (ts := [111, 100]) rfl (by intro _ _ h; cases h) (by kernel_rfl) rfl rfl (decide_eq_false hc31) (fun _ ho => ok_load_s ho sc3 (.tmp rfl) rfl (ldI_out hp37))) rfl ?_
                refine x_go (f_op_g (dst := some 113) (t := 100) (ts := [108, 112, 100]) rfl (by intro _ _ h; cases h) (by kernel_rfl) rfl rfl (decide_eq_false hc31) (fun _ _ ho => ok_ibin ho (.tmp rfl) (.tmp rfl) rfl)) rfl ?_
                refine x_go (f_op_g (dst := some 114) (t := 100) (ts := [113, 100]) rfl (by intro _ _ h; cases h) (by kernel_rfl) rfl rfl (decide_eq_false hc31) (fun _ _ ho => ok_move ho (.tmp rfl))) rfl ?_
                try dsimp only [HAct.put, List.set_cons_zero, List.set_cons_succ]
                rcases ifc h with ⟨hc38, h⟩ | ⟨hc38, h⟩
                · refine x_go (f_op_g (dst := some 115) (t := 114) (ts := [8, 114]) rfl (by intro _ _ h; cases h) (by kernel_rfl) rfl rfl (decide_eq_true hc38) (fun _ _ ho => ok_move ho (.tmp rfl))) rfl ?_
                  refine x_go (f_op_g (dst := some 116) (t := 114) (ts := [9, 114]) rfl (by intro _ _ h; cases h) (by kernel_rfl) rfl rfl (decide_eq_true hc38) (fun _ _ ho => ok_move ho (.tmp rfl))) rfl ?_
                  refine x_go (f_op_g (dst := some 117) (t := 114) (ts := [116, 114]) rfl (by intro _ _ h; cases h) (by kernel_rfl) rfl rfl (decide_eq_true hc38) (fun _ _ ho => ok_ibin ho (.tmp rfl) (.int _ _) rfl)) rfl ?_
                  obtain ⟨p39, hp39, h⟩ := bindo h
                  refine x_go (r_op_g (dst := some 118) (t := 114) (ts := [115, 117, 114]) rfl (by intro _ _ h; cases h) (by kernel_rfl) rfl rfl (decide_eq_true hc38) (fun _ ho => ok_indexAddr (s := y8) ho tu48 sz3 (.tmp rfl) (.tmp rfl) hp39)) rfl ?_
                  try dsimp only [HAct.put, List.set_cons_zero, List.set_cons_succ]
                  obtain ⟨p40, hp40, h⟩ := bindo h
                  refine x_go (r_op_g (dst := some 119) (t := 114) (ts := [118, 114]) rfl (by intro _ _ h; cases h) (by kernel_rfl) rfl rfl (decide_eq_true hc38) (fun _ ho => ok_load_s ho sc3 (.tmp rfl) rfl (ldI_out hp40))) rfl ?_
                  refine x_go (f_op_g (dst := some 120) (t := 114) (ts := [10, 114]) rfl (by intro _ _ h; cases h) (by kernel_rfl) rfl rfl (decide_eq_true hc38) (fun _ _ ho => ok_move ho (.tmp rfl))) rfl ?_
                  refine x_go (f_op_g (dst := some 121) (t := 114) (ts := [119, 120, 114]) rfl (by intro _ _ h; cases h) (by kernel_rfl) rfl rfl (decide_eq_true hc38) (fun _ _ ho => ok_ibin ho (.tmp rfl) (.tmp rfl) rfl)) rfl ?_
                  refine x_go (f_op_g (dst := some 122) (t := 100) (ts := [114, 121, 100]) rfl (by intro _ _ h; cases h) (by kernel_rfl) rfl rfl (decide_eq_false hc31) (fun _ _ ho => ok_pick_tt ho (.tmp rfl) (decide_eq_true hc38) (.tmp rfl))) rfl ?_
                  try dsimp only [HAct.put, List.set_cons_zero, List.set_cons_succ]
                  refine x_go (f_op_g (dst := some 123) (t := 86) (ts := [100, 122, 86]) rfl (by intro _ _ h; cases h) (by kernel_rfl) rfl rfl (decide_eq_true hc24) (fun _ _ ho => ok_pick_ff ho (.tmp rfl) (decide_eq_false hc31) (.tmp rfl))) rfl ?_
                  refine x_go (f_op_g (dst := some 124) (t := 83) (ts := [86, 123, 83]) rfl (by intro _ _ h; cases h) (by kernel_rfl) rfl rfl (decide_eq_false hc23) (fun _ _ ho => ok_pick_tt ho (.tmp rfl) (decide_eq_true hc24) (.tmp rfl))) rfl ?_
                  refine x_go (f_op (dst := some 125) (ts := [83, 124]) rfl (by intro _ _ h; cases h) (by kernel_rfl) (fun _ _ ho => ok_pick_ff ho (.tmp rfl) (decide_eq_false hc23) (.tmp rfl))) rfl ?_
                  refine x_rest rfl ?_
                  refine hr_region_end ?_
                  try dsimp only [HAct.put, List.set_cons_zero, List.set_cons_succ]
                  try dsimp only [HAct.put, List.set_cons_zero, List.set_cons_succ]
                  exact J4_snd hD hH ih h
                · refine x_go (f_skip (dst := some 115) (t := 114) (ts := [8, 114]) rfl (by kernel_rfl) rfl rfl (decide_eq_false hc38)) rfl ?_
                  refine x_go (f_skip (dst := some 116) (t := 114) (ts := [9, 114]) rfl (by kernel_rfl) rfl rfl (decide_eq_false hc38)) rfl ?_
                  refine x_go (f_skip (dst := some 117) (t := 114) (ts := [116, 114]) rfl (by kernel_rfl) rfl rfl (decide_eq_false hc38)) rfl ?_
                  refine x_go (r_skip (dst := some 118) (t := 114) (ts := [115, 117, 114]) rfl (by kernel_rfl) rfl rfl (decide_eq_false hc38)) rfl ?_
                  try dsimp only [HAct.put, List.set_cons_zero, List.set_cons_succ]
                  refine x_go (r_skip (dst := some 119) (t := 114) (ts := [118, 114]) rfl (by kernel_rfl) rfl rfl (decide_eq_false hc38)) rfl ?_
                  refine x_go (f_skip (dst := some 120) (t := 114) (ts := [10, 114]) rfl (by kernel_rfl) rfl rfl (decide_eq_false hc38)) rfl ?_
                  refine x_go (f_skip (dst := some 121) (t := 114) (ts := [119, 120, 114]) rfl (by kernel_rfl) rfl rfl (decide_eq_false hc38)) rfl ?_
                  refine x_go (f_op_g (dst := some 122) (t := 100) (ts := [114, 121, 100]) rfl (by intro _ _ h; cases h) (by kernel_rfl) rfl rfl (decide_eq_false hc31) (fun _ _ ho => ok_pick_ff ho (.tmp rfl) (decide_eq_false hc38) (.bool _))) rfl ?_
                  try dsimp only [HAct.put, List.set_cons_zero, List.set_cons_succ]
                  refine x_go (f_op_g (dst := some 123) (t := 86) (ts := [100, 122, 86]) rfl (by intro _ _ h; cases h) (by kernel_rfl) rfl rfl (decide_eq_true hc24) (fun _ _ ho => ok_pick_ff ho (.tmp rfl) (decide_eq_false hc31) (.tmp rfl))) rfl ?_
                  refine x_go (f_op_g (dst := some 124) (t := 83) (ts := [86, 123, 83]) rfl (by intro _ _ h; cases h) (by kernel_rfl) rfl rfl (decide_eq_false hc23) (fun _ _ ho => ok_pick_tt ho (.tmp rfl) (decide_eq_true hc24) (.tmp rfl))) rfl ?_
                  refine x_go (f_op (dst := some 125) (ts := [83, 124]) rfl (by intro _ _ h; cases h) (by kernel_rfl) (fun _ _ ho => ok_pick_ff ho (.tmp rfl) (decide_eq_false hc23) (.tmp rfl))) rfl ?_
                  refine x_rest rfl ?_
                  refine hr_region_end ?_
                  try dsimp only [HAct.put, List.set_cons_zero, List.set_cons_succ]
                  try dsimp only [HAct.put, List.set_cons_zero, List.set_cons_succ]
                  exact J4_snd hD hH ih h
            · refine x_go (f_skip (dst := some 87) (t := 86) (ts := [0, 86]) rfl (by kernel_rfl) rfl rfl (decide_eq_false hc24)) rfl ?_
              refine x_go (f_skip (dst := some 88) (t := 86) (ts := [8, 86]) rfl (by kernel_rfl) rfl rfl (decide_eq_false hc24)) rfl ?_
              refine x_go (f_skip (dst := some 89) (t := 86) (ts := [9, 86]) rfl (by kernel_rfl) rfl rfl (decide_eq_false hc24)) rfl ?_
              refine x_go (f_skip (dst := some 90) (t := 86) (ts := [89, 86]) rfl (by kernel_rfl) rfl rfl (decide_eq_false hc24)) rfl ?_
              try dsimp only [HAct.put, List.set_cons_zero, List.set_cons_succ]
              refine x_go (r_skip (dst := some 91) (t := 86) (ts := [88, 90, 86]) rfl (by kernel_rfl) rfl rfl (decide_eq_false hc24)) rfl ?_
              refine x_go (r_skip (dst := some 92) (t := 86) (ts := [91, 86]) rfl (by kernel_rfl) rfl rfl (decide_eq_false hc24)) rfl ?_
              refine x_go (r_skip (dst := some 93) (t := 86) (ts := [87, 92, 86]) rfl (by kernel_rfl) rfl rfl (decide_eq_false hc24)) rfl ?_
              refine x_go (r_skip (dst := some 94) (t := 86) (ts := [93, 86]) rfl (by kernel_rfl) rfl rfl (decide_eq_false hc24)) rfl ?_
              try dsimp only [HAct.put, List.set_cons_zero, List.set_cons_succ]
              refine x_go (f_skip (dst := some 95) (t := 86) (ts := [0, 86]) rfl (by kernel_rfl) rfl rfl (decide_eq_false hc24)) rfl ?_
              refine x_go (f_skip (dst := some 96) (t := 86) (ts := [10, 86]) rfl (by kernel_rfl) rfl rfl (decide_eq_false hc24)) rfl ?_
              refine x_go (r_skip (dst := some 97) (t := 86) (ts := [95, 96, 86]) rfl (by kernel_rfl) rfl rfl (decide_eq_false hc24)) rfl ?_
              refine x_go (r_skip (dst := some 98) (t := 86) (ts := [97, 86]) rfl (by kernel_rfl) rfl rfl (decide_eq_false hc24)) rfl ?_
              try dsimp only [HAct.put, List.set_cons_zero, List.set_cons_succ]
              refine x_go (f_skip (dst := some 99) (t := 86) (ts := [94, 98, 86]) rfl (by kernel_rfl) rfl rfl (decide_eq_false hc24)) rfl ?_
              refine x_go (f_skip (dst := some 100) (t := 86) (ts := [99, 86]) rfl (by kernel_rfl) rfl rfl (decide_eq_false hc24)) rfl ?_
              refine x_go (f_skip_u (dst := some 101) (t := 100) (ts := [0, 100]) rfl (by kernel_rfl) rfl rfl) rfl ?_
              refine x_go (f_skip_u (dst := some 102) (t := 100) (ts := [8, 100]) rfl (by kernel_rfl) rfl rfl) rfl ?_
              try dsimp only [HAct.put, List.set_cons_zero, List.set_cons_succ]
              refine x_go (f_skip_u (dst := some 103) (t := 100) (ts := [9, 100]) rfl (by kernel_rfl) rfl rfl) rfl ?_
              refine x_go (f_skip_u (dst := some 104) (t := 100) (ts := [103, 100]) rfl (by kernel_rfl) rfl rfl) rfl ?_
              refine x_go (r_skip_u (dst := some 105) (t := 100) (ts := [102, 104, 100]) rfl (by kernel_rfl) rfl rfl) rfl ?_
              refine x_go (r_skip_u (dst := some 106) (t := 100) (ts := [105, 100]) rfl (by kernel_rfl) rfl rfl) rfl ?_
              try dsimp only [HAct.put, List.set_cons_zero, List.set_cons_succ]
              refine x_go (r_skip_u (dst := some 107) (t := 100) (ts := [101, 106, 100]) rfl (by kernel_rfl) rfl rfl) rfl ?_
              refine x_go (r_skip_u (dst := some 108) (t := 100) (ts := [107, 100]) rfl (by kernel_rfl) rfl rfl) rfl ?_
              refine x_go (f_skip_u (dst := some 109) (t := 100) (ts := [0, 100]) rfl (by kernel_rfl) rfl rfl) rfl ?_
              refine x_go (f_skip_u (dst := some 110) (t := 100) (ts := [10, 100]) rfl (by kernel_rfl) rfl rfl) rfl ?_
              try dsimp only [HAct.put, List.set_cons_zero, List.set_cons_succ]
              refine x_go (r_skip_u (dst := some 111) (t := 100) (ts := [109, 110, 100]) rfl (by kernel_rfl) rfl rfl) rfl ?_
              refine x_go (r_skip_u (dst := some 112) (t := 100) (ts := [111, 100]) rfl (by kernel_rfl) rfl rfl) rfl ?_
              refine x_go (f_skip_u (dst := some 113) (t := 100) (ts := [108, 112, 100]) rfl (by kernel_rfl) rfl rfl) rfl ?_
              refine x_go (f_skip_u (dst := some 114) (t := 100) (ts := [113, 100]) rfl (by kernel_rfl) rfl rfl) rfl ?_
              try dsimp only [HAct.put, List.set_cons_zero, List.set_cons_succ]
              refine x_go (f_skip_u (dst := some 115) (t := 114) (ts := [8, 114]) rfl (by kernel_rfl) rfl rfl) rfl ?_
              refine x_go (f_skip_u (dst := some 116) (t := 114) (ts := [9, 114]) rfl (by kernel_rfl) rfl rfl) rfl ?_
              refine x_go (f_skip_u (dst := some 117) (t := 114) (ts := [116, 114]) rfl (by kernel_rfl) rfl rfl) rfl ?_
              refine x_go (r_skip_u (dst := some 118) (t := 114) (ts := [115, 117, 114]) rfl (by kernel_rfl) rfl rfl) rfl ?_
              try dsimp only [HAct.put, List.set_cons_zero, List.set_cons_succ]
              refine x_go (r_skip_u (dst := some 119) (t := 114) (ts := [118, 114]) rfl (by kernel_rfl) rfl rfl) rfl ?_
              refine x_go (f_skip_u (dst := some 120) (t := 114) (ts := [10, 114]) rfl (by kernel_rfl) rfl rfl) rfl ?_
              refine x_go (f_skip_u (dst := some 121) (t := 114) (ts := [119, 120, 114]) rfl (by kernel_rfl) rfl rfl) rfl ?_
              refine x_go (f_skip_u (dst := some 122) (t := 100) (ts := [114, 121, 100]) rfl (by kernel_rfl) rfl rfl) rfl ?_
              try dsimp only [HAct.put, List.set_cons_zero, List.set_cons_succ]
              refine x_go (f_skip (dst := some 123) (t := 86) (ts := [100, 122, 86]) rfl (by kernel_rfl) rfl rfl (decide_eq_false hc24)) rfl ?_
              refine x_go (f_op_g (dst := some 124) (t := 83) (ts := [86, 123, 83]) rfl (by intro _ _ h; cases h) (by kernel_rfl) rfl rfl (decide_eq_false hc23) (fun _ _ ho => ok_pick_ff ho (.tmp rfl) (decide_eq_false hc24) (.bool _))) rfl ?_
              refine x_go (f_op (dst := some 125) (ts := [83, 124]) rfl (by intro _ _ h; cases h) (by kernel_rfl) (fun _ _ ho => ok_pick_ff ho (.tmp rfl) (decide_eq_false hc23) (.tmp rfl))) rfl ?_
              refine x_rest rfl ?_
              refine hr_region_end ?_
              try dsimp only [HAct.put, List.set_cons_zero, List.set_cons_succ]
              try dsimp only [HAct.put, List.set_cons_zero, List.set_cons_succ]
              exact J4_snd hD hH ih h
    · refine q_cond_f e61 (.tmp rfl) (decide_eq_false hc15) ?_
      refine q_exit e63 rfl ?_
      refine q_seq e76 ?_
      refine q_region e77 rfl ?_
      refine q_op (dst := some 127) rfl (fun _ ho => ok_move ho (.tmp rfl)) ?_
      obtain ⟨p41, hp41, h⟩ := bindo h
      refine q_call (dst := some 128) rfl (.func _) (.cons (.tmp rfl) Evs.nil) (HInv.static timer_Table_int_Next.at_ timer_Table_int_Next.body (timer_Table_int_Next.snd  hp41)) ?_
      rintro _ _ ⟨rfl, rfl⟩
      refine q_op (dst := some 126) rfl (fun _ ho => ok_move ho (.tmp rfl)) ?_
      refine q_op (dst := some 129) rfl (fun _ ho => ok_extract ho (.tmp rfl) rfl) ?_
      try dsimp only [HAct.put, List.set_cons_zero, List.set_cons_succ]
      refine q_op (dst := some 130) rfl (fun _ ho => ok_extract ho (.tmp rfl) rfl) ?_
      refine q_op (dst := some 131) rfl (fun _ ho => ok_extract ho (.tmp rfl) rfl) ?_
      refine q_op (dst := some 11) rfl (fun _ ho => ok_assign ho (.tmp rfl)) ?_
      refine q_op (dst := some 12) rfl (fun _ ho => ok_assign ho (.tmp rfl)) ?_
      try dsimp only [HAct.put, List.set_cons_zero, List.set_cons_succ]
      refine q_op (dst := some 13) rfl (fun _ ho => ok_assign ho (.tmp rfl)) ?_
      refine hr_region_end ?_
      try dsimp only [HAct.put, List.set_cons_zero, List.set_cons_succ]
      refine q_seq e78 ?_
      refine q_region e79 rfl ?_
      refine q_op (dst := some 132) rfl (fun _ ho => ok_move ho (.tmp rfl)) ?_
      refine q_op (dst := some 133) rfl (fun _ ho => ok_not ho (.tmp rfl)) ?_
      refine q_op (dst := some 134) rfl (fun _ ho => ok_move ho (.tmp rfl)) ?_
      rcases ifc h with ⟨hc42, h⟩ | ⟨hc42, h⟩
      · refine q_skip (dst := some 135) (t := 134) rfl rfl rfl hc42 ?_
        try dsimp only [HAct.put, List.set_cons_zero, List.set_cons_succ]
        refine q_skip (dst := some 136) (t := 134) rfl rfl rfl hc42 ?_
        refine q_skip (dst := some 137) (t := 134) rfl rfl rfl hc42 ?_
        refine q_op (dst := some 138) rfl (fun _ ho => ok_pick_tt ho (.tmp rfl) hc42 (.bool _)) ?_
        try dsimp only [HAct.put, List.set_cons_zero, List.set_cons_succ]
        exact J5_snd hD hH h
      · refine q_op_g (t := 134) (dst := some 135) rfl rfl rfl (bfalse hc42) (fun _ ho => ok_move ho (.tmp rfl)) ?_
        try dsimp only [HAct.put, List.set_cons_zero, List.set_cons_succ]
        refine q_op_g (t := 134) (dst := some 136) rfl rfl rfl (bfalse hc42) (fun _ ho => ok_move ho (.tmp rfl)) ?_
        refine q_op_g (t := 134) (dst := some 137) rfl rfl rfl (bfalse hc42) (fun _ ho => ok_ibin ho (.tmp rfl) (.tmp rfl) rfl) ?_
        refine q_op (dst := some 138) rfl (fun _ ho => ok_pick_ff ho (.tmp rfl) (bfalse hc42) (.tmp rfl)) ?_
        try dsimp only [HAct.put, List.set_cons_zero, List.set_cons_succ]
        exact J5_snd hD hH h
def J2 (D : Dp) (H : Hd) (k : Nat) (y0 : Sl) (y1 : Int) (y5 : (Option HA)) (y8 : Sl) (y56 : Bool) (S : HS) : Option ((Bool) × HS) :=
  (if y56 = true then
  some (false, S) else
  L3 D H k k y0 y1 y5 y8 0 S)
theorem J2_snd {D : Dp} {H : Hd} {k : Nat} (hD : DSound Try.prog base W0 D) (hH : HSound Try.prog base W0 β0 H)  {y0 : Sl} {y1 : Int} {y5 : (Option HA)} {y8 : Sl} {y56 : Bool} {S : HS} {p : (Bool) × HS} {g2 g3 g4 g6 g7 g9 g10 g11 g12 g13 g14 g15 g16 g17 g18 g19 g20 g21 g22 g23 g24 g25 g26 g27 g28 g29 g30 g31 g32 g33 g34 g35 g36 g37 g38 g39 g40 g41 g42 g43 g44 g45 g46 g47 g48 g49 g50 g51 g52 g53 g54 g55 g57 g58 g59 g60 g61 g62 g63 g64 g65 g66 g67 g68 g69 g70 g71 g72 g73 g74 g75 g76 g77 g78 g79 g80 g81 g82 g83 g84 g85 g86 g87 g88 g89 g90 g91 g92 g93 g94 g95 g96 g97 g98 g99 g100 g101 g102 g103 g104 g105 g106 g107 g108 g109 g110 g111 g112 g113 g114 g115 g116 g117 g118 g119 g120 g121 g122 g123 g124 g125 g126 g127 g128 g129 g130 g131 g132 g133 g134 g135 g136 g137 g138 : HV} (h : J2 D H k y0 y1 y5 y8 y56 S = some p) : HRun Try.prog base W0 β0 4 none [.code c48, .code c53] ⟨[(Sl.hv y0), (.int .i64 y1), g2, g3, g4, (.ptr y5), g6, g7, (Sl.hv y8), g9, g10, g11, g12, g13, g14, g15, g16, g17, g18, g19, g20, g21, g22, g23, g24, g25, g26, g27, g28, g29, g30, g31, g32, g33, g34, g35, g36, g37, g38, g39, g40, g41, g42, g43, g44, g45, g46, g47, g48, g49, g50, g51, g52, g53, g54, g55, (.bool y56), g57, g58, g59, g60, g61, g62, g63, g64, g65, g66, g67, g68, g69, g70, g71, g72, g73, g74, g75, g76, g77, g78, g79, g80, g81, g82, g83, g84, g85, g86, g87, g88, g89, g90, g91, g92, g93, g94, g95, g96, g97, g98, g99, g100, g101, g102, g103, g104, g105, g106, g107, g108, g109, g110, g111, g112, g113, g114, g115, g116, g117, g118, g119, g120, g121, g122, g123, g124, g125, g126, g127, g128, g129, g130, g131, g132, g133, g134, g135, g136, g137, g138], []⟩ S (fun v S1 => v = (.bool p.1) ∧ S1 = p.2) := by
  unfold J2 at h
  rcases ifc h with ⟨hc14, h⟩ | ⟨hc14, h⟩
  · refine q_cond_t e48 (.tmp rfl) hc14 ?_
    refine q_seq e49 ?_
    refine q_region e50 rfl ?_
    refine q_op (dst := some 4) rfl (fun _ ho => ok_assign ho (.bool _)) ?_
    refine hr_region_end ?_
    try dsimp only [HAct.put, List.set_cons_zero, List.set_cons_succ]
    cases h
    exact q_ret e51 at_.at_ rfl (res1 rfl rfl) ⟨rfl, rfl⟩
  · refine q_cond_f e48 (.tmp rfl) (bfalse hc14) ?_
    refine q_skipc e52 ?_
    refine q_seq e53 ?_
    refine q_seq e54 ?_
    refine q_region e55 rfl ?_
    refine q_op (dst := some 9) rfl (fun _ ho => ok_assign ho (.int _ _)) ?_
    refine hr_region_end ?_
    try dsimp only [HAct.put, List.set_cons_zero, List.set_cons_succ]
    refine q_block e56 ?_
    refine q_loop e57 ?_
    try dsimp only [HAct.put, List.set_cons_zero, List.set_cons_succ]
    exact L3_snd hD hH h
def L0 (D : Dp) (H : Hd) (k : Nat) : Nat → Sl → Int → (Option HA) → Int → Int → HS → Option ((Bool) × HS)
  | 0, _, _, _, _, _, _ => none
  | n + 1, y0, y1, y5, y6, y7, S =>
    (if y7 < (Sl.len y0 : Int) then
    (Option.bind (HS.idx S y0 y7 1) fun p6 =>
    (Option.bind (HS.ldI S .i64 p6) fun p7 =>
    (Option.bind (timer_Table_int_Set.f D H k y5 y7 p7 S) fun p8 =>
    (Option.bind (HS.idx p8.2 y0 y7 1) fun p9 =>
    (Option.bind (HS.ldI p8.2 .i64 p9) fun p10 =>
    (if p10 ≤ y1 then
    J1 D H k (L0 D H k n) y0 y1 y5 (w64 (y6 + 1)) y7 p8.2 else
    J1 D H k (L0 D H k n) y0 y1 y5 y6 y7 p8.2)))))) else
    (Option.bind (timer_Table_int_Take.f D H k y5 y1 S) fun p12 =>
    (if (!decide ((Sl.len p12.1 : Int) = y6)) = true then
    J2 D H k y0 y1 y5 p12.1 true p12.2 else
    (Option.bind (timer_Table_int_Len.f y5 p12.2) fun p43 =>
    J2 D H k y0 y1 y5 p12.1 (!decide (p43.1 = (w64 ((Sl.len y0 : Int) - y6)))) p43.2))))
theorem L0_snd {D : Dp} {H : Hd} {k : Nat} (hD : DSound Try.prog base W0 D) (hH : HSound Try.prog base W0 β0 H)  : ∀ {n : Nat} ⦃y0 : Sl⦄ ⦃y1 : Int⦄ ⦃y5 : (Option HA)⦄ ⦃y6 : Int⦄ ⦃y7 : Int⦄ ⦃S : HS⦄ ⦃p : (Bool) × HS⦄ ⦃g2 g3 g4 g8 g9 g10 g11 g12 g13 g14 g15 g16 g17 g18 g19 g20 g21 g22 g23 g24 g25 g26 g27 g28 g29 g30 g31 g32 g33 g34 g35 g36 g37 g38 g39 g40 g41 g42 g43 g44 g45 g46 g47 g48 g49 g50 g51 g52 g53 g54 g55 g56 g57 g58 g59 g60 g61 g62 g63 g64 g65 g66 g67 g68 g69 g70 g71 g72 g73 g74 g75 g76 g77 g78 g79 g80 g81 g82 g83 g84 g85 g86 g87 g88 g89 g90 g91 g92 g93 g94 g95 g96 g97 g98 g99 g100 g101 g102 g103 g104 g105 g106 g107 g108 g109 g110 g111 g112 g113 g114 g115 g116 g117 g118 g119 g120 g121 g122 g123 g124 g125 g126 g127 g128 g129 g130 g131 g132 g133 g134 g135 g136 g137 g138 : HV⦄, L0 D H k n y0 y1 y5 y6 y7 S = some p → HRun Try.prog base W0 β0 4 none [.inLoop c27, .inBlock 0, .code c43] ⟨[(Sl.hv y0), (.int .i64 y1), g2, g3, g4, (.ptr y5), (.int .i64 y6), (.int .i64 y7), g8, g9, g10, g11, g12, g13, g14, g15, g16, g17, g18, g19, g20, g21, g22, g23, g24, g25, g26, g27, g28, g29, g30, g31, g32, g33, g34, g35, g36, g37, g38, g39, g40, g41, g42, g43, g44, g45, g46, g47, g48, g49, g50, g51, g52, g53, g54, g55, g56, g57, g58, g59, g60, g61, g62, g63, g64, g65, g66, g67, g68, g69, g70, g71, g72, g73, g74, g75, g76, g77, g78, g79, g80, g81, g82, g83, g84, g85, g86, g87, g88, g89, g90, g91, g92, g93, g94, g95, g96, g97, g98, g99, g100, g101, g102, g103, g104, g105, g106, g107, g108, g109, g110, g111, g112, g113, g114, g115, g116, g117, g118, g119, g120, g121, g122, g123, g124, g125, g126, g127, g128, g129, g130, g131, g132, g133, g134, g135, g136, g137, g138], []⟩ S (fun v S1 => v = (.bool p.1) ∧ S1 = p.2) := by
  intro n
  induction n with
  | zero => intro _ _ _ _ _ _ _ _ _ _ _ _ _ _ _ _ _ _ _ _ _ _ _ _ _ _ _ _ _ _ _ _ _ _ _ _ _ _ _ _ _ _ _ _ _ _ _ _ _ _ _ _ _ _ _ _ _ _ _ _ _ _ _ _ _ _ _ _ _ _ _ _ _ _ _ _ _ _ _ _ _ _ _ _ _ _ _ _ _ _ _ _ _ _ _ _ _ _ _ _ _ _ _ _ _ _ _ _ _ _ _ _ _ _ _ _ _ _ _ _ _ _ _ _ _ _ _ _ _ _ _ _ _ _ _ _ _ _ _ _ _ h; cases h
  | succ n ih =>
    intro y0 y1 y5 y6 y7 S p g2 g3 g4 g8 g9 g10 g11 g12 g13 g14 g15 g16 g17 g18 g19 g20 g21 g22 g23 g24 g25 g26 g27 g28 g29 g30 g31 g32 g33 g34 g35 g36 g37 g38 g39 g40 g41 g42 g43 g44 g45 g46 g47 g48 g49 g50 g51 g52 g53 g54 g55 g56 g57 g58 g59 g60 g61 g62 g63 g64 g65 g66 g67 g68 g69 g70 g71 g72 g73 g74 g75 g76 g77 g78 g79 g80 g81 g82 g83 g84 g85 g86 g87 g88 g89 g90 g91 g92 g93 g94 g95 g96 g97 g98 g99 g100 g101 g102 g103 g104 g105 g106 g107 g108 g109 g110 g111 g112 g113 g114 g115 g116 g117 g118 g119 g120 g121 g122 g123 g124 g125 g126 g127 g128 g129 g130 g131 g132 g133 g134 g135 g136 g137 g138 h
    simp only [L0] at h
    refine hr_inLoop ?_
    refine q_seq e27 ?_
    refine q_seq e28 ?_
    refine q_region e29 rfl ?_
    refine q_op (dst := some 20) rfl (fun _ ho => ok_move ho (.tmp rfl)) ?_
    refine q_op (dst := some 21) rfl (fun _ ho => ok_move ho (.tmp rfl)) ?_
    refine q_op (dst := some 22) rfl (fun _ ho => ok_len_sl (q := Sl.a y0) (n := Sl.len y0) (z := Sl.cap y0) ho rfl tu48 (.tmp rfl)) ?_
    refine q_op (dst := some 23) rfl (fun _ ho => ok_ibin ho (.tmp rfl) (.tmp rfl) rfl) ?_
    refine hr_region_end ?_
    try dsimp only [HAct.put, List.set_cons_zero, List.set_cons_succ]
    rcases ifc h with ⟨hc5, h⟩ | ⟨hc5, h⟩
    · refine q_cond_t e30 (.tmp rfl) (decide_eq_true hc5) ?_
      refine q_skipc e31 ?_
      refine q_seq e33 ?_
      refine q_block e34 ?_
      refine q_seq e35 ?_
      refine q_region e36 rfl ?_
      refine q_op (dst := some 26) rfl (fun _ ho => ok_move ho (.tmp rfl)) ?_
      refine q_op (dst := some 27) rfl (fun _ ho => ok_move ho (.tmp rfl)) ?_
      refine q_op (dst := some 28) rfl (fun _ ho => ok_move ho (.tmp rfl)) ?_
      refine q_op (dst := some 29) rfl (fun _ ho => ok_move ho (.tmp rfl)) ?_
      try dsimp only [HAct.put, List.set_cons_zero, List.set_cons_succ]
      obtain ⟨p6, hp6, h⟩ := bindo h
      refine q_op (dst := some 30) rfl (fun _ ho => ok_indexAddr (s := y0) ho tu48 sz3 (.tmp rfl) (.tmp rfl) hp6) ?_
      obtain ⟨p7, hp7, h⟩ := bindo h
      refine q_op (dst := some 31) rfl (fun _ ho => ok_load_s ho sc3 (.tmp rfl) rfl (ldI_out hp7)) ?_
      obtain ⟨p8, hp8, h⟩ := bindo h
      refine q_call (dst := some 32) rfl (.func _) (.cons (.tmp rfl) (.cons (.tmp rfl) (.cons (.tmp rfl) Evs.nil))) (HInv.static timer_Table_int_Set.at_ timer_Table_int_Set.body (timer_Table_int_Set.snd hD hH hp8)) ?_
      rintro _ _ ⟨rfl, rfl⟩
      refine hr_region_end ?_
      try dsimp only [HAct.put, List.set_cons_zero, List.set_cons_succ]
      refine q_seq e37 ?_
      refine q_region e38 rfl ?_
      refine q_op (dst := some 33) rfl (fun _ ho => ok_move ho (.tmp rfl)) ?_
      refine q_op (dst := some 34) rfl (fun _ ho => ok_move ho (.tmp rfl)) ?_
      obtain ⟨p9, hp9, h⟩ := bindo h
      refine q_op (dst := some 35) rfl (fun _ ho => ok_indexAddr (s := y0) ho tu48 sz3 (.tmp rfl) (.tmp rfl) hp9) ?_
      obtain ⟨p10, hp10, h⟩ := bindo h
      refine q_op (dst := some 36) rfl (fun _ ho => ok_load_s ho sc3 (.tmp rfl) rfl (ldI_out hp10)) ?_
      try dsimp only [HAct.put, List.set_cons_zero, List.set_cons_succ]
      refine q_op (dst := some 37) rfl (fun _ ho => ok_move ho (.tmp rfl)) ?_
      refine q_op (dst := some 38) rfl (fun _ ho => ok_ibin ho (.tmp rfl) (.tmp rfl) rfl) ?_
      refine hr_region_end ?_
      try dsimp only [HAct.put, List.set_cons_zero, List.set_cons_succ]
      rcases ifc h with ⟨hc11, h⟩ | ⟨hc11, h⟩
      · refine q_cond_t e39 (.tmp rfl) (decide_eq_true hc11) ?_
        refine q_region e40 rfl ?_
        refine q_op (dst := some 39) rfl (fun _ ho => ok_move ho (.tmp rfl)) ?_
        refine q_op (dst := some 40) rfl (fun _ ho => ok_ibin ho (.tmp rfl) (.int _ _) rfl) ?_
        refine q_op (dst := some 6) rfl (fun _ ho => ok_assign ho (.tmp rfl)) ?_
        refine hr_region_end ?_
        try dsimp only [HAct.put, List.set_cons_zero, List.set_cons_succ]
        refine hr_inBlock ?_
        try dsimp only [HAct.put, List.set_cons_zero, List.set_cons_succ]
        exact J1_snd hD hH ih h
      · refine q_cond_f e39 (.tmp rfl) (decide_eq_false hc11) ?_
        refine q_skipc e41 ?_
        refine hr_inBlock ?_
        try dsimp only [HAct.put, List.set_cons_zero, List.set_cons_succ]
        exact J1_snd hD hH ih h
    · refine q_cond_f e30 (.tmp rfl) (decide_eq_false hc5) ?_
      refine q_exit e32 rfl ?_
      refine q_seq e43 ?_
      refine q_region e44 rfl ?_
      refine q_op (dst := some 41) rfl (fun _ ho => ok_move ho (.tmp rfl)) ?_
      refine q_op (dst := some 42) rfl (fun _ ho => ok_move ho (.tmp rfl)) ?_
      obtain ⟨p12, hp12, h⟩ := bindo h
      refine q_call (dst := some 43) rfl (.func _) (.cons (.tmp rfl) (.cons (.tmp rfl) Evs.nil)) (HInv.static timer_Table_int_Take.at_ timer_Table_int_Take.body (timer_Table_int_Take.snd hD hH hp12)) ?_
      rintro _ _ ⟨rfl, rfl⟩
      refine q_op (dst := some 8) rfl (fun _ ho => ok_assign ho (.tmp rfl)) ?_
      refine hr_region_end ?_
      try dsimp only [HAct.put, List.set_cons_zero, List.set_cons_succ]
      refine q_seq e45 ?_
      refine q_seq e46 ?_
      refine q_region e47 rfl ?_
      refine q_op (dst := some 44) rfl (fun _ ho => ok_move ho (.tmp rfl)) ?_
      refine q_op (dst := some 45) rfl (fun _ ho => ok_len_sl (q := Sl.a p12.1) (n := Sl.len p12.1) (z := Sl.cap p12.1) ho rfl tu48 (.tmp rfl)) ?_
      refine q_op (dst := some 46) rfl (fun _ ho => ok_move ho (.tmp rfl)) ?_
      refine q_op (dst := some 47) rfl (fun _ ho => ok_ibin ho (.tmp rfl) (.tmp rfl) rfl) ?_
      try dsimp only [HAct.put, List.set_cons_zero, List.set_cons_succ]
      refine q_op (dst := some 48) rfl (fun _ ho => ok_move ho (.tmp rfl)) ?_
      rcases ifc h with ⟨hc13, h⟩ | ⟨hc13, h⟩
      · refine q_skip (dst := some 49) (t := 48) rfl rfl rfl hc13 ?_
        refine q_skip (dst := some 50) (t := 48) rfl rfl rfl hc13 ?_
        refine q_skip (dst := some 51) (t := 48) rfl rfl rfl hc13 ?_
        try dsimp only [HAct.put, List.set_cons_zero, List.set_cons_succ]
        refine q_skip (dst := some 52) (t := 48) rfl rfl rfl hc13 ?_
        refine q_skip (dst := some 53) (t := 48) rfl rfl rfl hc13 ?_
        refine q_skip (dst := some 54) (t := 48) rfl rfl rfl hc13 ?_
        refine q_skip (dst := some 55) (t := 48) rfl rfl rfl hc13 ?_
        try dsimp only [HAct.put, List.set_cons_zero, List.set_cons_succ]
        refine q_op (dst := some 56) rfl (fun _ ho => ok_pick_tt ho (.tmp rfl) hc13 (.bool _)) ?_
        refine hr_region_end ?_
        try dsimp only [HAct.put, List.set_cons_zero, List.set_cons_succ]
        try dsimp only [HAct.put, List.set_cons_zero, List.set_cons_succ]
        exact J2_snd hD hH h
      · refine q_op_g (t := 48) (dst := some 49) rfl rfl rfl (bfalse hc13) (fun _ ho => ok_move ho (.tmp rfl)) ?_
        obtain ⟨p43, hp43, h⟩ := bindo h
        refine q_call_g (t := 48) (dst := some 50) rfl rfl rfl (bfalse hc13) (.func _) (.cons (.tmp rfl) Evs.nil) (HInv.static timer_Table_int_Len.at_ timer_Table_int_Len.body (timer_Table_int_Len.snd  hp43)) ?_
        rintro _ _ ⟨rfl, rfl⟩
        refine q_op_g (t := 48) (dst := some 51) rfl rfl rfl (bfalse hc13) (fun _ ho => ok_move ho (.tmp rfl)) ?_
        try dsimp only [HAct.put, List.set_cons_zero, List.set_cons_succ]
        refine q_op_g (t := 48) (dst := some 52) rfl rfl rfl (bfalse hc13) (fun _ ho => ok_len_sl (q := Sl.a y0) (n := Sl.len y0) (z := Sl.cap y0) ho rfl tu48 (.tmp rfl)) ?_
        refine q_op_g (t := 48) (dst := some 53) rfl rfl rfl (bfalse hc13) (fun _ ho => ok_move ho (.tmp rfl)) ?_
        refine q_op_g (t := 48) (dst := some 54) rfl rfl rfl (bfalse hc13) (fun _ ho => ok_ibin ho (.tmp rfl) (.tmp rfl) rfl) ?_
        refine q_op_g (t := 48) (dst := some 55) rfl rfl rfl (bfalse hc13) (fun _ ho => ok_ibin ho (.tmp rfl) (.tmp rfl) rfl) ?_
        try dsimp only [HAct.put, List.set_cons_zero, List.set_cons_succ]
        refine q_op (dst := some 56) rfl (fun _ ho => ok_pick_ff ho (.tmp rfl) (bfalse hc13) (.tmp rfl)) ?_
        refine hr_region_end ?_
        try dsimp only [HAct.put, List.set_cons_zero, List.set_cons_succ]
        try dsimp only [HAct.put, List.set_cons_zero, List.set_cons_succ]
        exact J2_snd hD hH h
def f (D : Dp) (H : Hd) (k : Nat) (x0 : Sl) (x1 : Int) (S : HS) : Option ((Bool) × HS) :=
  (Option.bind (rollcalllaw09_awake.f D H k S) fun p1 =>
  (if (!p1.1) = true then
  some (false, p1.2) else
  (if (Sl.len x0 : Int) > 60 then
  some (true, p1.2) else
  (Option.bind (timer_New_int.f p1.2) fun p4 =>
  L0 D H k k x0 x1 p4.1 0 0 p4.2))))
theorem snd {D : Dp} {H : Hd} {k : Nat} {x0 : Sl} {x1 : Int} {S : HS} (hD : DSound Try.prog base W0 D) (hH : HSound Try.prog base W0 β0 H)  {p : (Bool) × HS} (h : f D H k x0 x1 S = some p) : HCall Try.prog base W0 β0 4 [(Sl.hv x0), (.int .i64 x1)] S (fun v S1 => v = (.bool p.1) ∧ S1 = p.2) := by
  unfold f at h
  refine HCall.of_run at_.at_ body ?_
  show HRun Try.prog base W0 β0 4 none [.code c0] ⟨[(Sl.hv x0), (.int .i64 x1), .tup [], .tup [], .tup [], .tup [], .tup [], .tup [], .tup [], .tup [], .tup [], .tup [], .tup [], .tup [], .tup [], .tup [], .tup [], .tup [], .tup [], .tup [], .tup [], .tup [], .tup [], .tup [], .tup [], .tup [], .tup [], .tup [], .tup [], .tup [], .tup [], .tup [], .tup [], .tup [], .tup [], .tup [], .tup [], .tup [], .tup [], .tup [], .tup [], .tup [], .tup [], .tup [], .tup [], .tup [], .tup [], .tup [], .tup [], .tup [], .tup [], .tup [], .tup [], .tup [], .tup [], .tup [], .tup [], .tup [], .tup [], .tup [], .tup [], .tup [], .tup [], .tup [], .tup [], .tup [], .tup [], .tup [], .tup [], .tup [], .tup [], .tup [], .tup [], .tup [], .tup [], .tup [], .tup [], .tup [], .tup [], .tup [], .tup [], .tup [], .tup [], .tup [], .tup [], .tup [], .tup [], .tup [], .tup [], .tup [], .tup [], .tup [], .tup [], .tup [], .tup [], .tup [], .tup [], .tup [], .tup [], .tup [], .tup [], .tup [], .tup [], .tup [], .tup [], .tup [], .tup [], .tup [], .tup [], .tup [], .tup [], .tup [], .tup [], .tup [], .tup [], .tup [], .tup [], .tup [], .tup [], .tup [], .tup [], .tup [], .tup [], .tup [], .tup [], .tup [], .tup [], .tup [], .tup [], .tup [], .tup [], .tup [], .tup [], .tup [], .tup [], .tup [], .tup [], .tup [], .tup []], []⟩ S _
  refine q_seq e0 ?_
  refine q_region e1 rfl ?_
  refine q_op (dst := some 4) rfl (fun _ ho => ok_assign ho (.bool _)) ?_
  refine hr_region_end ?_
  try dsimp only [HAct.put, List.set_cons_zero, List.set_cons_succ]
  refine q_seq e2 ?_
  refine q_seq e3 ?_
  refine q_region e4 rfl ?_
  obtain ⟨p1, hp1, h⟩ := bindo h
  refine q_call (dst := some 14) rfl (.func _) Evs.nil (HInv.static rollcalllaw09_awake.at_ rollcalllaw09_awake.body (rollcalllaw09_awake.snd hD hH hp1)) ?_
  rintro _ _ ⟨rfl, rfl⟩
  refine q_op (dst := some 15) rfl (fun _ ho => ok_not ho (.tmp rfl)) ?_
  refine hr_region_end ?_
  try dsimp only [HAct.put, List.set_cons_zero, List.set_cons_succ]
  rcases ifc h with ⟨hc2, h⟩ | ⟨hc2, h⟩
  · refine q_cond_t e5 (.tmp rfl) hc2 ?_
    refine q_seq e6 ?_
    refine q_region e7 rfl ?_
    refine q_op (dst := some 4) rfl (fun _ ho => ok_assign ho (.bool _)) ?_
    refine hr_region_end ?_
    try dsimp only [HAct.put, List.set_cons_zero, List.set_cons_succ]
    cases h
    exact q_ret e8 at_.at_ rfl (res1 rfl rfl) ⟨rfl, rfl⟩
  · refine q_cond_f e5 (.tmp rfl) (bfalse hc2) ?_
    refine q_skipc e9 ?_
    refine q_seq e10 ?_
    refine q_seq e11 ?_
    refine q_region e12 rfl ?_
    refine q_op (dst := some 16) rfl (fun _ ho => ok_move ho (.tmp rfl)) ?_
    refine q_op (dst := some 17) rfl (fun _ ho => ok_len_sl (q := Sl.a x0) (n := Sl.len x0) (z := Sl.cap x0) ho rfl tu48 (.tmp rfl)) ?_
    refine q_op (dst := some 18) rfl (fun _ ho => ok_ibin ho (.tmp rfl) (.int _ _) rfl) ?_
    refine hr_region_end ?_
    try dsimp only [HAct.put, List.set_cons_zero, List.set_cons_succ]
    rcases ifc h with ⟨hc3, h⟩ | ⟨hc3, h⟩
    · refine q_cond_t e13 (.tmp rfl) (decide_eq_true hc3) ?_
      refine q_seq e14 ?_
      refine q_region e15 rfl ?_
      refine q_op (dst := some 4) rfl (fun _ ho => ok_assign ho (.bool _)) ?_
      refine hr_region_end ?_
      try dsimp only [HAct.put, List.set_cons_zero, List.set_cons_succ]
      cases h
      exact q_ret e16 at_.at_ rfl (res1 rfl rfl) ⟨rfl, rfl⟩
    · refine q_cond_f e13 (.tmp rfl) (decide_eq_false hc3) ?_
      refine q_skipc e17 ?_
      refine q_seq e18 ?_
      refine q_region e19 rfl ?_
      obtain ⟨p4, hp4, h⟩ := bindo h
      refine q_call (dst := some 19) rfl (.func _) Evs.nil (HInv.static timer_New_int.at_ timer_New_int.body (timer_New_int.snd  hp4)) ?_
      rintro _ _ ⟨rfl, rfl⟩
      refine q_op (dst := some 5) rfl (fun _ ho => ok_assign ho (.tmp rfl)) ?_
      refine hr_region_end ?_
      try dsimp only [HAct.put, List.set_cons_zero, List.set_cons_succ]
      refine q_seq e20 ?_
      refine q_region e21 rfl ?_
      refine q_op (dst := some 6) rfl (fun _ ho => ok_assign ho (.int _ _)) ?_
      refine hr_region_end ?_
      try dsimp only [HAct.put, List.set_cons_zero, List.set_cons_succ]
      refine q_seq e22 ?_
      refine q_seq e23 ?_
      refine q_region e24 rfl ?_
      refine q_op (dst := some 7) rfl (fun _ ho => ok_assign ho (.int _ _)) ?_
      refine hr_region_end ?_
      try dsimp only [HAct.put, List.set_cons_zero, List.set_cons_succ]
      refine q_block e25 ?_
      refine q_loop e26 ?_
      try dsimp only [HAct.put, List.set_cons_zero, List.set_cons_succ]
      exact L0_snd hD hH h
end
end rollcalllaw09_TimerDue
section
variable {base : Nat} {W0 : World} {β0 : Bt}
def call_26 (D : Dp) (H : Hd) (k : Nat) (vs : List HV) (S : HS) : Option (HV × HS) :=
  Option.bind (args2 vs) fun a =>
  Option.bind (dA2 a.1) fun p0 =>
  Option.bind (dS p0.1) fun p1 =>
  Option.bind (dI .i64 p0.2) fun p2 =>
  Option.bind (dA2 a.2) fun p3 =>
  Option.bind (dS p3.1) fun p4 =>
  Option.bind (dI .i64 p3.2) fun p5 =>
  Option.bind (timer_compare_string.f k p1 p2 p4 p5 S) fun q =>
  some ((.int .i64 q.1), q.2)
theorem call_26_snd {D : Dp} {H : Hd} {k : Nat} (hD : DSound Try.prog base W0 D) (hH : HSound Try.prog base W0 β0 H) {vs : List HV} {S : HS} {p : HV × HS} (h : call_26 D H k vs S = some p) : HCall Try.prog base W0 β0 26 vs S (fun v1 S1 => v1 = p.1 ∧ S1 = p.2) := by
  unfold call_26 at h
  obtain ⟨a, ha, h⟩ := bindo h
  obtain ⟨p0, hp0, h⟩ := bindo h
  obtain ⟨p1, hp1, h⟩ := bindo h
  obtain ⟨p2, hp2, h⟩ := bindo h
  obtain ⟨p3, hp3, h⟩ := bindo h
  obtain ⟨p4, hp4, h⟩ := bindo h
  obtain ⟨p5, hp5, h⟩ := bindo h
  obtain ⟨q, hq, h⟩ := bindo h
  rw [args2_out ha, dA2_out hp0, dS_out hp1, dI_out hp2, dA2_out hp3, dS_out hp4, dI_out hp5]
  cases h
  exact timer_compare_string.snd hq
def call_40 (D : Dp) (H : Hd) (k : Nat) (vs : List HV) (S : HS) : Option (HV × HS) :=
  Option.bind (args2 vs) fun a =>
  Option.bind (dF a.1) fun p0 =>
  Option.bind (dP a.2) fun p1 =>
  Option.bind (timer_Table_string_Due_1.f D H k p0 p1 S) fun q =>
  some (.tup [], q.2)
theorem call_40_snd {D : Dp} {H : Hd} {k : Nat} (hD : DSound Try.prog base W0 D) (hH : HSound Try.prog base W0 β0 H) {vs : List HV} {S : HS} {p : HV × HS} (h : call_40 D H k vs S = some p) : HCall Try.prog base W0 β0 40 vs S (fun v1 S1 => v1 = p.1 ∧ S1 = p.2) := by
  unfold call_40 at h
  obtain ⟨a, ha, h⟩ := bindo h
  obtain ⟨p0, hp0, h⟩ := bindo h
  obtain ⟨p1, hp1, h⟩ := bindo h
  obtain ⟨q, hq, h⟩ := bindo h
  rw [args2_out ha, dF_out hp0, dP_out hp1]
  cases h
  exact timer_Table_string_Due_1.snd hD hH hq
def call_33 (D : Dp) (H : Hd) (k : Nat) (vs : List HV) (S : HS) : Option (HV × HS) :=
  Option.bind (args2 vs) fun a =>
  Option.bind (dA2 a.1) fun p0 =>
  Option.bind (dI .i64 p0.1) fun p1 =>
  Option.bind (dI .i64 p0.2) fun p2 =>
  Option.bind (dA2 a.2) fun p3 =>
  Option.bind (dI .i64 p3.1) fun p4 =>
  Option.bind (dI .i64 p3.2) fun p5 =>
  Option.bind (timer_compare_int.f k p1 p2 p4 p5 S) fun q =>
  some ((.int .i64 q.1), q.2)
theorem call_33_snd {D : Dp} {H : Hd} {k : Nat} (hD : DSound Try.prog base W0 D) (hH : HSound Try.prog base W0 β0 H) {vs : List HV} {S : HS} {p : HV × HS} (h : call_33 D H k vs S = some p) : HCall Try.prog base W0 β0 33 vs S (fun v1 S1 => v1 = p.1 ∧ S1 = p.2) := by
  unfold call_33 at h
  obtain ⟨a, ha, h⟩ := bindo h
  obtain ⟨p0, hp0, h⟩ := bindo h
  obtain ⟨p1, hp1, h⟩ := bindo h
  obtain ⟨p2, hp2, h⟩ := bindo h
  obtain ⟨p3, hp3, h⟩ := bindo h
  obtain ⟨p4, hp4, h⟩ := bindo h
  obtain ⟨p5, hp5, h⟩ := bindo h
  obtain ⟨q, hq, h⟩ := bindo h
  rw [args2_out ha, dA2_out hp0, dI_out hp1, dI_out hp2, dA2_out hp3, dI_out hp4, dI_out hp5]
  cases h
  exact timer_compare_int.snd hq
def call_48 (D : Dp) (H : Hd) (k : Nat) (vs : List HV) (S : HS) : Option (HV × HS) :=
  Option.bind (args2 vs) fun a =>
  Option.bind (dF a.1) fun p0 =>
  Option.bind (dP a.2) fun p1 =>
  Option.bind (timer_Table_int_Due_1.f D H k p0 p1 S) fun q =>
  some (.tup [], q.2)
theorem call_48_snd {D : Dp} {H : Hd} {k : Nat} (hD : DSound Try.prog base W0 D) (hH : HSound Try.prog base W0 β0 H) {vs : List HV} {S : HS} {p : HV × HS} (h : call_48 D H k vs S = some p) : HCall Try.prog base W0 β0 48 vs S (fun v1 S1 => v1 = p.1 ∧ S1 = p.2) := by
  unfold call_48 at h
  obtain ⟨a, ha, h⟩ := bindo h
  obtain ⟨p0, hp0, h⟩ := bindo h
  obtain ⟨p1, hp1, h⟩ := bindo h
  obtain ⟨q, hq, h⟩ := bindo h
  rw [args2_out ha, dF_out hp0, dP_out hp1]
  cases h
  exact timer_Table_int_Due_1.snd hD hH hq
def disp (k : Nat) : Nat → Dp
  | 0 => fun _ _ _ _ => none
  | n + 1 => fun H fv vs S => match fv with
    | .fn (.yield l) [] [] => Option.bind (H l) fun r => r vs S
    | .fn (.func f) xs ys => if f = 26 then call_26 (disp k n) H k (xs ++ vs ++ ys) S else if f = 40 then call_40 (disp k n) H k (xs ++ vs ++ ys) S else if f = 33 then call_33 (disp k n) H k (xs ++ vs ++ ys) S else if f = 48 then call_48 (disp k n) H k (xs ++ vs ++ ys) S else none
    | _ => none
theorem disp_func {k n : Nat} {H : Hd} {f : Nat} {xs ys vs : List HV} {S : HS} : disp k (n + 1) H (.fn (.func f) xs ys) vs S = (if f = 26 then call_26 (disp k n) H k (xs ++ vs ++ ys) S else if f = 40 then call_40 (disp k n) H k (xs ++ vs ++ ys) S else if f = 33 then call_33 (disp k n) H k (xs ++ vs ++ ys) S else if f = 48 then call_48 (disp k n) H k (xs ++ vs ++ ys) S else none) := rfl
theorem disp_yield {k n : Nat} {H : Hd} {l : Nat} {vs : List HV} {S : HS} : disp k (n + 1) H (.fn (.yield l) [] []) vs S = Option.bind (H l) fun r => r vs S := rfl
theorem disp_snd {k : Nat} : ∀ n, DSound Try.prog base W0 (disp k n) := by
  intro n
  induction n with
  | zero => intro _ _ _ _ _ _ _ _ h; cases h
  | succ n ih =>
    intro β0 H hH fv vs S v S' h
    unfold disp at h
    split at h
    · obtain ⟨r, hr, h⟩ := bindo h
      exact hH _ _ hr _ _ _ _ h
    · skip
      rcases ifc h with ⟨hf, h⟩ | ⟨hf, h⟩
      · subst hf; exact HInv.func timer_compare_string.at_ timer_compare_string.body (call_26_snd (k := k) ih hH h)
      rcases ifc h with ⟨hf, h⟩ | ⟨hf, h⟩
      · subst hf; exact HInv.func timer_Table_string_Due_1.at_ timer_Table_string_Due_1.body (call_40_snd (k := k) ih hH h)
      rcases ifc h with ⟨hf, h⟩ | ⟨hf, h⟩
      · subst hf; exact HInv.func timer_compare_int.at_ timer_compare_int.body (call_33_snd (k := k) ih hH h)
      rcases ifc h with ⟨hf, h⟩ | ⟨hf, h⟩
      · subst hf; exact HInv.func timer_Table_int_Due_1.at_ timer_Table_int_Due_1.body (call_48_snd (k := k) ih hH h)
      cases h
    · cases h
end
end Go.Proofs.Ytlfdfkldolgkoaa.X
