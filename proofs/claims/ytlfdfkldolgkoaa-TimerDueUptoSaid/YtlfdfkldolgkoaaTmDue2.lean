/- Functions of the program, each as a Lean function over the layer HL: a call answers what the Lean function answers, where it answers. -/
import Derived.Test.YtlfdfkldolgkoaaProg
import Derived.Test.YtlfdfkldolgkoaaTmDue
namespace Go.Proofs.Ytlfdfkldolgkoaa.X
open Go.Proofs.Ytlfdfkldolgkoaa.HL
set_option linter.unusedVariables false
set_option linter.unusedSimpArgs false
set_option maxRecDepth 20000
set_option maxHeartbeats 4000000
namespace timer_Table_string_Due
abbrev id : Nat := 28
theorem at_ : FnAt Try.prog 28 Try.f28 := ⟨Try.func28, by kernel_rfl⟩
noncomputable def c0 : Code := (Try.f28.body).getD .skip
noncomputable def c1 : Code := match c0 with | .seq x _ => x | _ => .skip
noncomputable def c2 : Code := match c0 with | .seq _ x => x | _ => .skip
noncomputable def c3 : Code := match c2 with | .seq x _ => x | _ => .skip
noncomputable def c4 : Code := match c2 with | .seq _ x => x | _ => .skip
noncomputable def c5 : Code := match c4 with | .seq x _ => x | _ => .skip
noncomputable def c6 : Code := match c5 with | .seq x _ => x | _ => .skip
noncomputable def c7 : Code := match c5 with | .seq _ x => x | _ => .skip
noncomputable def c8 : Code := match c7 with | .cond _ x _ => x | _ => .skip
noncomputable def c9 : Code := match c8 with | .seq x _ => x | _ => .skip
noncomputable def c10 : Code := match c8 with | .seq _ x => x | _ => .skip
noncomputable def c11 : Code := match c10 with | .seq x _ => x | _ => .skip
noncomputable def c12 : Code := match c11 with | .block _ x => x | _ => .skip
noncomputable def c13 : Code := match c12 with | .loop x => x | _ => .skip
noncomputable def c14 : Code := match c13 with | .seq x _ => x | _ => .skip
noncomputable def c15 : Code := match c14 with | .seq x _ => x | _ => .skip
noncomputable def c16 : Code := match c14 with | .seq _ x => x | _ => .skip
noncomputable def c17 : Code := match c16 with | .cond _ x _ => x | _ => .skip
noncomputable def c18 : Code := match c16 with | .cond _ _ x => x | _ => .skip
noncomputable def c19 : Code := match c13 with | .seq _ x => x | _ => .skip
noncomputable def c20 : Code := match c19 with | .block _ x => x | _ => .skip
noncomputable def c21 : Code := match c10 with | .seq _ x => x | _ => .skip
noncomputable def c22 : Code := match c7 with | .cond _ _ x => x | _ => .skip
noncomputable def c23 : Code := match c4 with | .seq _ x => x | _ => .skip
noncomputable def c24 : Code := match c23 with | .seq x _ => x | _ => .skip
noncomputable def c25 : Code := match c23 with | .seq _ x => x | _ => .skip
theorem e0 : c0 = .seq c1 c2 := by kernel_rfl
noncomputable def r1 : Array Oper := match c1 with | .region _ x _ => x | _ => #[]
theorem e1 : c1 = .region 0 r1 false := by kernel_rfl
theorem e2 : c2 = .seq c3 c4 := by kernel_rfl
noncomputable def r3 : Array Oper := match c3 with | .region _ x _ => x | _ => #[]
theorem e3 : c3 = .region 1 r3 false := by kernel_rfl
theorem e4 : c4 = .seq c5 c23 := by kernel_rfl
theorem e5 : c5 = .seq c6 c7 := by kernel_rfl
noncomputable def r6 : Array Oper := match c6 with | .region _ x _ => x | _ => #[]
theorem e6 : c6 = .region 2 r6 false := by kernel_rfl
theorem e7 : c7 = .cond (.tmp 8) c8 c22 := by kernel_rfl
theorem e8 : c8 = .seq c9 c10 := by kernel_rfl
noncomputable def r9 : Array Oper := match c9 with | .region _ x _ => x | _ => #[]
theorem e9 : c9 = .region 3 r9 false := by kernel_rfl
theorem e10 : c10 = .seq c11 c21 := by kernel_rfl
theorem e11 : c11 = .block 0 c12 := by kernel_rfl
theorem e12 : c12 = .loop c13 := by kernel_rfl
theorem e13 : c13 = .seq c14 c19 := by kernel_rfl
theorem e14 : c14 = .seq c15 c16 := by kernel_rfl
noncomputable def r15 : Array Oper := match c15 with | .region _ x _ => x | _ => #[]
theorem e15 : c15 = .region 4 r15 false := by kernel_rfl
theorem e16 : c16 = .cond (.tmp 27) c17 c18 := by kernel_rfl
theorem e17 : c17 = .skip := by kernel_rfl
theorem e18 : c18 = .exit 0 := by kernel_rfl
theorem e19 : c19 = .block 1 c20 := by kernel_rfl
noncomputable def r20 : Array Oper := match c20 with | .region _ x _ => x | _ => #[]
theorem e20 : c20 = .region 5 r20 false := by kernel_rfl
noncomputable def r21 : Array Oper := match c21 with | .region _ x _ => x | _ => #[]
theorem e21 : c21 = .region 6 r21 false := by kernel_rfl
theorem e22 : c22 = .skip := by kernel_rfl
theorem e23 : c23 = .seq c24 c25 := by kernel_rfl
noncomputable def r24 : Array Oper := match c24 with | .region _ x _ => x | _ => #[]
theorem e24 : c24 = .region 7 r24 false := by kernel_rfl
theorem e25 : c25 = .ret := by kernel_rfl
theorem body : Try.f28.body = some c0 := by kernel_rfl
section
variable {base : Nat} {W0 : World} {β0 : Bt}
def J2 (k : Nat) (y5 : (Option HA)) (S : HS) : Option ((HV) × HS) :=
  some ((HV.fn (.func 40) [] [(.ptr y5)]), S)
theorem J2_snd {k : Nat}  {y5 : (Option HA)} {S : HS} {p : (HV) × HS} {g0 g1 g2 g3 g4 g6 g7 g8 g9 g10 g11 g12 g13 g14 g15 g16 g17 g18 g19 g20 g21 g22 g23 g24 g25 g26 g27 g28 g29 g30 g31 g32 g33 g34 g35 g36 g37 : HV} (h : J2 k y5 S = some p) : HRun Try.prog base W0 β0 28 none [.code c23] ⟨[g0, g1, g2, g3, g4, (.ptr y5), g6, g7, g8, g9, g10, g11, g12, g13, g14, g15, g16, g17, g18, g19, g20, g21, g22, g23, g24, g25, g26, g27, g28, g29, g30, g31, g32, g33, g34, g35, g36, g37], []⟩ S (fun v S1 => v = p.1 ∧ S1 = p.2) := by
  unfold J2 at h
  refine q_seq e23 ?_
  refine q_region e24 rfl ?_
  refine q_op (dst := some 37) rfl (fun _ ho => ok_makeFunc ho Evs.nil (.cons (.tmp rfl) Evs.nil)) ?_
  refine q_op (dst := some 4) rfl (fun _ ho => ok_assign ho (.tmp rfl)) ?_
  refine hr_region_end ?_
  try dsimp only [HAct.put, List.set_cons_zero, List.set_cons_succ]
  cases h
  exact q_ret e25 at_.at_ rfl (res1 rfl rfl) ⟨rfl, rfl⟩
def J1 (k : Nat) (rec0 : (Option HA) → Int → (Option HA) → Int → HS → Option ((HV) × HS)) (y0 : (Option HA)) (y1 : Int) (y5 : (Option HA)) (y6 : Int) (y27 : Bool) (S : HS) : Option ((HV) × HS) :=
  (if y27 = true then
  rec0 y0 y1 y5 (w64 (y6 + 1)) S else
  (Option.bind (y0) fun p11 =>
  (Option.bind (HS.ldSl S (HA.fld p11 0)) fun p12 =>
  (Option.bind (HS.cut S p12 0 y6 2) fun p13 =>
  (Option.bind (slices_Clone_timer_item_string_timer_item_string.f p13 S) fun p14 =>
  (Option.bind (y5) fun p15 =>
  (Option.bind (HS.sets p14.2 p15 [(Sl.hv p14.1)]) fun p16 =>
  J2 k y5 p16)))))))
theorem J1_snd {k : Nat} {rec0 : (Option HA) → Int → (Option HA) → Int → HS → Option ((HV) × HS)} (hrec0 : ∀ ⦃y0 : (Option HA)⦄ ⦃y1 : Int⦄ ⦃y5 : (Option HA)⦄ ⦃y6 : Int⦄ ⦃S : HS⦄ ⦃p : (HV) × HS⦄ ⦃g2 g3 g4 g7 g8 g9 g10 g11 g12 g13 g14 g15 g16 g17 g18 g19 g20 g21 g22 g23 g24 g25 g26 g27 g28 g29 g30 g31 g32 g33 g34 g35 g36 g37 : HV⦄, rec0 y0 y1 y5 y6 S = some p → HRun Try.prog base W0 β0 28 none [.inLoop c13, .inBlock 0, .code c21, .code c23] ⟨[(.ptr y0), (.int .i64 y1), g2, g3, g4, (.ptr y5), (.int .i64 y6), g7, g8, g9, g10, g11, g12, g13, g14, g15, g16, g17, g18, g19, g20, g21, g22, g23, g24, g25, g26, g27, g28, g29, g30, g31, g32, g33, g34, g35, g36, g37], []⟩ S (fun v S1 => v = p.1 ∧ S1 = p.2)) {y0 : (Option HA)} {y1 : Int} {y5 : (Option HA)} {y6 : Int} {y27 : Bool} {S : HS} {p : (HV) × HS} {g2 g3 g4 g7 g8 g9 g10 g11 g12 g13 g14 g15 g16 g17 g18 g19 g20 g21 g22 g23 g24 g25 g26 g28 g29 g30 g31 g32 g33 g34 g35 g36 g37 : HV} (h : J1 k rec0 y0 y1 y5 y6 y27 S = some p) : HRun Try.prog base W0 β0 28 none [.code c16, .code c19, .inLoop c13, .inBlock 0, .code c21, .code c23] ⟨[(.ptr y0), (.int .i64 y1), g2, g3, g4, (.ptr y5), (.int .i64 y6), g7, g8, g9, g10, g11, g12, g13, g14, g15, g16, g17, g18, g19, g20, g21, g22, g23, g24, g25, g26, (.bool y27), g28, g29, g30, g31, g32, g33, g34, g35, g36, g37], []⟩ S (fun v S1 => v = p.1 ∧ S1 = p.2) := by
  unfold J1 at h
  rcases ifc h with ⟨hc10, h⟩ | ⟨hc10, h⟩
  · refine q_cond_t e16 (.tmp rfl) hc10 ?_
    refine q_skipc e17 ?_
    refine q_block e19 ?_
    refine q_region e20 rfl ?_
    refine q_op (dst := some 28) rfl (fun _ ho => ok_move ho (.tmp rfl)) ?_
    refine q_op (dst := some 29) rfl (fun _ ho => ok_ibin ho (.tmp rfl) (.int _ _) rfl) ?_
    refine q_op (dst := some 6) rfl (fun _ ho => ok_assign ho (.tmp rfl)) ?_
    refine hr_region_end ?_
    try dsimp only [HAct.put, List.set_cons_zero, List.set_cons_succ]
    refine hr_inBlock ?_
    try dsimp only [HAct.put, List.set_cons_zero, List.set_cons_succ]
    exact hrec0 h
  · refine q_cond_f e16 (.tmp rfl) (bfalse hc10) ?_
    refine q_exit e18 rfl ?_
    refine q_region e21 rfl ?_
    refine q_op (dst := some 30) rfl (fun _ ho => ok_move ho (.tmp rfl)) ?_
    obtain ⟨p11, hp11, h⟩ := bindo h
    refine q_op (dst := some 31) rfl (fun _ ho => ok_nilCheck_p ho (.tmp rfl) hp11) ?_
    refine q_op (dst := some 32) rfl (fun _ ho => ok_fieldAddr_s ho fi60_0 (by decide) (.tmp rfl) rfl) ?_
    obtain ⟨p12, hp12, h⟩ := bindo h
    refine q_op (dst := some 33) rfl (fun _ ho => ok_load_s ho sc58 (.tmp rfl) rfl (ldSl_out hp12)) ?_
    try dsimp only [HAct.put, List.set_cons_zero, List.set_cons_succ]
    refine q_op (dst := some 34) rfl (fun _ ho => ok_move ho (.tmp rfl)) ?_
    obtain ⟨p13, hp13, h⟩ := bindo h
    refine q_op (dst := some 35) rfl (fun _ ho => ok_slice (kl := .i64) (kh := .i64) (s := p12) (l := 0) (h := y6) ho tu58 si63 (.tmp rfl) (.inl ⟨rfl, rfl⟩) (.inr ⟨_, rfl, (.tmp rfl)⟩) hp13) ?_
    obtain ⟨p14, hp14, h⟩ := bindo h
    refine q_call (dst := some 36) rfl (.func _) (.cons (.tmp rfl) Evs.nil) (HInv.static slices_Clone_timer_item_string_timer_item_string.at_ slices_Clone_timer_item_string_timer_item_string.body (slices_Clone_timer_item_string_timer_item_string.snd  hp14)) ?_
    rintro _ _ ⟨rfl, rfl⟩
    obtain ⟨p15, hp15, h⟩ := bindo h
    obtain ⟨p16, hp16, h⟩ := bindo h
    refine q_op (dst := none) rfl (fun _ ho => ok_store_s (v := (Sl.hv p14.1)) ho sz58 (.tmp rfl) hp15 (.tmp rfl) rfl hp16) ?_
    refine hr_region_end ?_
    try dsimp only [HAct.put, List.set_cons_zero, List.set_cons_succ]
    try dsimp only [HAct.put, List.set_cons_zero, List.set_cons_succ]
    exact J2_snd  h
def L0 (k : Nat) : Nat → (Option HA) → Int → (Option HA) → Int → HS → Option ((HV) × HS)
  | 0, _, _, _, _, _ => none
  | n + 1, y0, y1, y5, y6, S =>
    (Option.bind (y0) fun p3 =>
    (Option.bind (HS.ldSl S (HA.fld p3 0)) fun p4 =>
    (if y6 < (Sl.len p4 : Int) then
    (Option.bind (y0) fun p6 =>
    (Option.bind (HS.ldSl S (HA.fld p6 0)) fun p7 =>
    (Option.bind (HS.idx S p7 y6 2) fun p8 =>
    (Option.bind (HS.ldI S .i64 (HA.fld p8 1)) fun p9 =>
    J1 k (L0 k n) y0 y1 y5 y6 (decide (p9 ≤ y1)) S)))) else
    J1 k (L0 k n) y0 y1 y5 y6 false S)))
theorem L0_snd {k : Nat}  : ∀ {n : Nat} ⦃y0 : (Option HA)⦄ ⦃y1 : Int⦄ ⦃y5 : (Option HA)⦄ ⦃y6 : Int⦄ ⦃S : HS⦄ ⦃p : (HV) × HS⦄ ⦃g2 g3 g4 g7 g8 g9 g10 g11 g12 g13 g14 g15 g16 g17 g18 g19 g20 g21 g22 g23 g24 g25 g26 g27 g28 g29 g30 g31 g32 g33 g34 g35 g36 g37 : HV⦄, L0 k n y0 y1 y5 y6 S = some p → HRun Try.prog base W0 β0 28 none [.inLoop c13, .inBlock 0, .code c21, .code c23] ⟨[(.ptr y0), (.int .i64 y1), g2, g3, g4, (.ptr y5), (.int .i64 y6), g7, g8, g9, g10, g11, g12, g13, g14, g15, g16, g17, g18, g19, g20, g21, g22, g23, g24, g25, g26, g27, g28, g29, g30, g31, g32, g33, g34, g35, g36, g37], []⟩ S (fun v S1 => v = p.1 ∧ S1 = p.2) := by
  intro n
  induction n with
  | zero => intro _ _ _ _ _ _ _ _ _ _ _ _ _ _ _ _ _ _ _ _ _ _ _ _ _ _ _ _ _ _ _ _ _ _ _ _ _ _ _ _ h; cases h
  | succ n ih =>
    intro y0 y1 y5 y6 S p g2 g3 g4 g7 g8 g9 g10 g11 g12 g13 g14 g15 g16 g17 g18 g19 g20 g21 g22 g23 g24 g25 g26 g27 g28 g29 g30 g31 g32 g33 g34 g35 g36 g37 h
    simp only [L0] at h
    refine hr_inLoop ?_
    refine q_seq e13 ?_
    refine q_seq e14 ?_
    refine q_region e15 rfl ?_
    refine q_op (dst := some 9) rfl (fun _ ho => ok_move ho (.tmp rfl)) ?_
    refine q_op (dst := some 10) rfl (fun _ ho => ok_move ho (.tmp rfl)) ?_
    obtain ⟨p3, hp3, h⟩ := bindo h
    refine q_op (dst := some 11) rfl (fun _ ho => ok_nilCheck_p ho (.tmp rfl) hp3) ?_
    refine q_op (dst := some 12) rfl (fun _ ho => ok_fieldAddr_s ho fi60_0 (by decide) (.tmp rfl) rfl) ?_
    try dsimp only [HAct.put, List.set_cons_zero, List.set_cons_succ]
    obtain ⟨p4, hp4, h⟩ := bindo h
    refine q_op (dst := some 13) rfl (fun _ ho => ok_load_s ho sc58 (.tmp rfl) rfl (ldSl_out hp4)) ?_
    refine q_op (dst := some 14) rfl (fun _ ho => ok_len_sl (q := Sl.a p4) (n := Sl.len p4) (z := Sl.cap p4) ho rfl tu58 (.tmp rfl)) ?_
    refine q_op (dst := some 15) rfl (fun _ ho => ok_ibin ho (.tmp rfl) (.tmp rfl) rfl) ?_
    refine q_op (dst := some 16) rfl (fun _ ho => ok_move ho (.tmp rfl)) ?_
    try dsimp only [HAct.put, List.set_cons_zero, List.set_cons_succ]
    rcases ifc h with ⟨hc5, h⟩ | ⟨hc5, h⟩
    · refine q_op_g (t := 16) (dst := some 17) rfl rfl rfl (decide_eq_true hc5) (fun _ ho => ok_move ho (.tmp rfl)) ?_
      obtain ⟨p6, hp6, h⟩ := bindo h
      refine q_op_g (t := 16) (dst := some 18) rfl rfl rfl (decide_eq_true hc5) (fun _ ho => ok_nilCheck_p ho (.tmp rfl) hp6) ?_
      refine q_op_g (t := 16) (dst := some 19) rfl rfl rfl (decide_eq_true hc5) (fun _ ho => ok_fieldAddr_s ho fi60_0 (by decide) (.tmp rfl) rfl) ?_
      obtain ⟨p7, hp7, h⟩ := bindo h
      refine q_op_g (t := 16) (dst := some 20) rfl rfl rfl (decide_eq_true hc5) (fun _ ho => ok_load_s ho sc58 (.tmp rfl) rfl (ldSl_out hp7)) ?_
      try dsimp only [HAct.put, List.set_cons_zero, List.set_cons_succ]
      refine q_op_g (t := 16) (dst := some 21) rfl rfl rfl (decide_eq_true hc5) (fun _ ho => ok_move ho (.tmp rfl)) ?_
      obtain ⟨p8, hp8, h⟩ := bindo h
      refine q_op_g (t := 16) (dst := some 22) rfl rfl rfl (decide_eq_true hc5) (fun _ ho => ok_indexAddr (s := p7) ho tu58 sz63 (.tmp rfl) (.tmp rfl) hp8) ?_
      refine q_op_g (t := 16) (dst := some 23) rfl rfl rfl (decide_eq_true hc5) (fun _ ho => ok_fieldAddr_s ho fi63_1 (by decide) (.tmp rfl) rfl) ?_
      obtain ⟨p9, hp9, h⟩ := bindo h
      refine q_op_g (t := 16) (dst := some 24) rfl rfl rfl (decide_eq_true hc5) (fun _ ho => ok_load_s ho sc3 (.tmp rfl) rfl (ldI_out hp9)) ?_
      try dsimp only [HAct.put, List.set_cons_zero, List.set_cons_succ]
      refine q_op_g (t := 16) (dst := some 25) rfl rfl rfl (decide_eq_true hc5) (fun _ ho => ok_move ho (.tmp rfl)) ?_
      refine q_op_g (t := 16) (dst := some 26) rfl rfl rfl (decide_eq_true hc5) (fun _ ho => ok_ibin ho (.tmp rfl) (.tmp rfl) rfl) ?_
      refine q_op (dst := some 27) rfl (fun _ ho => ok_pick_tt ho (.tmp rfl) (decide_eq_true hc5) (.tmp rfl)) ?_
      refine hr_region_end ?_
      try dsimp only [HAct.put, List.set_cons_zero, List.set_cons_succ]
      try dsimp only [HAct.put, List.set_cons_zero, List.set_cons_succ]
      exact J1_snd ih h
    · refine q_skip (dst := some 17) (t := 16) rfl rfl rfl (decide_eq_false hc5) ?_
      refine q_skip (dst := some 18) (t := 16) rfl rfl rfl (decide_eq_false hc5) ?_
      refine q_skip (dst := some 19) (t := 16) rfl rfl rfl (decide_eq_false hc5) ?_
      refine q_skip (dst := some 20) (t := 16) rfl rfl rfl (decide_eq_false hc5) ?_
      try dsimp only [HAct.put, List.set_cons_zero, List.set_cons_succ]
      refine q_skip (dst := some 21) (t := 16) rfl rfl rfl (decide_eq_false hc5) ?_
      refine q_skip (dst := some 22) (t := 16) rfl rfl rfl (decide_eq_false hc5) ?_
      refine q_skip (dst := some 23) (t := 16) rfl rfl rfl (decide_eq_false hc5) ?_
      refine q_skip (dst := some 24) (t := 16) rfl rfl rfl (decide_eq_false hc5) ?_
      try dsimp only [HAct.put, List.set_cons_zero, List.set_cons_succ]
      refine q_skip (dst := some 25) (t := 16) rfl rfl rfl (decide_eq_false hc5) ?_
      refine q_skip (dst := some 26) (t := 16) rfl rfl rfl (decide_eq_false hc5) ?_
      refine q_op (dst := some 27) rfl (fun _ ho => ok_pick_ff ho (.tmp rfl) (decide_eq_false hc5) (.bool _)) ?_
      refine hr_region_end ?_
      try dsimp only [HAct.put, List.set_cons_zero, List.set_cons_succ]
      try dsimp only [HAct.put, List.set_cons_zero, List.set_cons_succ]
      exact J1_snd ih h
def f (k : Nat) (x0 : (Option HA)) (x1 : Int) (S : HS) : Option ((HV) × HS) :=
  (letv (HS.new S (.cells 1 [[(Sl.hv Sl.nil)]] true)) fun p1 =>
  (if (!Option.isNone x0) = true then
  L0 k k x0 x1 (some (HA.cell0 S.next)) 0 p1 else
  J2 k (some (HA.cell0 S.next)) p1))
theorem snd {k : Nat} {x0 : (Option HA)} {x1 : Int} {S : HS}  {p : (HV) × HS} (h : f k x0 x1 S = some p) : HCall Try.prog base W0 β0 28 [(.ptr x0), (.int .i64 x1)] S (fun v S1 => v = p.1 ∧ S1 = p.2) := by
  unfold f at h
  refine HCall.of_run at_.at_ body ?_
  show HRun Try.prog base W0 β0 28 none [.code c0] ⟨[(.ptr x0), (.int .i64 x1), .tup [], .tup [], .tup [], .tup [], .tup [], .tup [], .tup [], .tup [], .tup [], .tup [], .tup [], .tup [], .tup [], .tup [], .tup [], .tup [], .tup [], .tup [], .tup [], .tup [], .tup [], .tup [], .tup [], .tup [], .tup [], .tup [], .tup [], .tup [], .tup [], .tup [], .tup [], .tup [], .tup [], .tup [], .tup [], .tup []], []⟩ S _
  refine q_seq e0 ?_
  refine q_region e1 rfl ?_
  refine q_op (dst := some 4) rfl (fun _ ho => ok_assign ho (.const fun _ => .nilFn)) ?_
  refine hr_region_end ?_
  try dsimp only [HAct.put, List.set_cons_zero, List.set_cons_succ]
  refine q_seq e2 ?_
  refine q_region e3 rfl ?_
  obtain ⟨p1, hp1, h⟩ := leto h
  refine q_op (dst := some 5) rfl (fun _ ho => ok_alloc_e ho zi58 zr58 (by decide) rfl hp1) ?_
  refine hr_region_end ?_
  try dsimp only [HAct.put, List.set_cons_zero, List.set_cons_succ]
  refine q_seq e4 ?_
  refine q_seq e5 ?_
  refine q_region e6 rfl ?_
  refine q_op (dst := some 7) rfl (fun _ ho => ok_move ho (.tmp rfl)) ?_
  refine q_op (dst := some 8) rfl (fun _ ho => ok_nil_ptr ho tu25 (.tmp rfl) (.inr ⟨rfl, rfl⟩)) ?_
  refine hr_region_end ?_
  try dsimp only [HAct.put, List.set_cons_zero, List.set_cons_succ]
  rcases ifc h with ⟨hc2, h⟩ | ⟨hc2, h⟩
  · refine q_cond_t e7 (.tmp rfl) hc2 ?_
    refine q_seq e8 ?_
    refine q_region e9 rfl ?_
    refine q_op (dst := some 6) rfl (fun _ ho => ok_assign ho (.int _ _)) ?_
    refine hr_region_end ?_
    try dsimp only [HAct.put, List.set_cons_zero, List.set_cons_succ]
    refine q_seq e10 ?_
    refine q_block e11 ?_
    refine q_loop e12 ?_
    try dsimp only [HAct.put, List.set_cons_zero, List.set_cons_succ]
    exact L0_snd  h
  · refine q_cond_f e7 (.tmp rfl) (bfalse hc2) ?_
    refine q_skipc e22 ?_
    try dsimp only [HAct.put, List.set_cons_zero, List.set_cons_succ]
    exact J2_snd  h
end
end timer_Table_string_Due
namespace timer_Table_string_Take
abbrev id : Nat := 11
theorem at_ : FnAt Try.prog 11 Try.f11 := ⟨Try.func11, by kernel_rfl⟩
noncomputable def c0 : Code := (Try.f11.body).getD .skip
noncomputable def c1 : Code := match c0 with | .seq x _ => x | _ => .skip
noncomputable def c2 : Code := match c0 with | .seq _ x => x | _ => .skip
noncomputable def c3 : Code := match c2 with | .seq x _ => x | _ => .skip
noncomputable def c4 : Code := match c2 with | .seq _ x => x | _ => .skip
noncomputable def c5 : Code := match c4 with | .seq x _ => x | _ => .skip
noncomputable def c6 : Code := match c5 with | .seq x _ => x | _ => .skip
noncomputable def c7 : Code := match c5 with | .seq _ x => x | _ => .skip
noncomputable def c8 : Code := match c7 with | .block _ x => x | _ => .skip
noncomputable def c9 : Code := match c8 with | .rangeFunc _ _ x _ => x | _ => .skip
noncomputable def c10 : Code := match c8 with | .rangeFunc _ _ _ x => x | _ => .skip
noncomputable def c11 : Code := match c10 with | .block _ x => x | _ => .skip
noncomputable def c12 : Code := match c11 with | .seq x _ => x | _ => .skip
noncomputable def c13 : Code := match c11 with | .seq _ x => x | _ => .skip
noncomputable def c14 : Code := match c4 with | .seq _ x => x | _ => .skip
noncomputable def c15 : Code := match c14 with | .seq x _ => x | _ => .skip
noncomputable def c16 : Code := match c14 with | .seq _ x => x | _ => .skip
theorem e0 : c0 = .seq c1 c2 := by kernel_rfl
noncomputable def r1 : Array Oper := match c1 with | .region _ x _ => x | _ => #[]
theorem e1 : c1 = .region 0 r1 false := by kernel_rfl
theorem e2 : c2 = .seq c3 c4 := by kernel_rfl
noncomputable def r3 : Array Oper := match c3 with | .region _ x _ => x | _ => #[]
theorem e3 : c3 = .region 1 r3 false := by kernel_rfl
theorem e4 : c4 = .seq c5 c14 := by kernel_rfl
theorem e5 : c5 = .seq c6 c7 := by kernel_rfl
noncomputable def r6 : Array Oper := match c6 with | .region _ x _ => x | _ => #[]
theorem e6 : c6 = .region 2 r6 false := by kernel_rfl
theorem e7 : c7 = .block 0 c8 := by kernel_rfl
theorem e8 : c8 = .rangeFunc (.tmp 9) #[10, 11] c9 c10 := by kernel_rfl
noncomputable def r9 : Array Oper := match c9 with | .region _ x _ => x | _ => #[]
theorem e9 : c9 = .region 3 r9 false := by kernel_rfl
theorem e10 : c10 = .block 1 c11 := by kernel_rfl
theorem e11 : c11 = .seq c12 c13 := by kernel_rfl
noncomputable def r12 : Array Oper := match c12 with | .region _ x _ => x | _ => #[]
theorem e12 : c12 = .region 4 r12 false := by kernel_rfl
noncomputable def r13 : Array Oper := match c13 with | .region _ x _ => x | _ => #[]
theorem e13 : c13 = .region 5 r13 false := by kernel_rfl
theorem e14 : c14 = .seq c15 c16 := by kernel_rfl
noncomputable def r15 : Array Oper := match c15 with | .region _ x _ => x | _ => #[]
theorem e15 : c15 = .region 6 r15 false := by kernel_rfl
theorem e16 : c16 = .ret := by kernel_rfl
theorem body : Try.f11.body = some c0 := by kernel_rfl
section
variable {base : Nat} {W0 : World} {β0 : Bt}
def J0 (D : Dp) (H : Hd) (k : Nat) (l : Nat) (y2 : (Option HA)) (y5 : (Option HA)) (y10 : (List UInt8)) (S : HS) : Option (HV × HS) :=
  (Option.bind (HS.begin_ S l) fun p5 =>
  (Option.bind (y5) fun p6 =>
  (Option.bind (HS.ldSl p5 p6) fun p7 =>
  (letv (HS.lit p5 [[(.str y10)]] 1) fun p8 =>
  (Option.bind (HS.rows (p8.2) (p8.1) 1) fun p9 =>
  (Option.bind (HS.app (p8.2) p7 p9 1) fun p10 =>
  (Option.bind (y5) fun p11 =>
  (Option.bind (HS.sets (p10.2) p11 [(Sl.hv (p10.1))]) fun p12 =>
  (Option.bind (y2) fun p13 =>
  (Option.bind (HS.ldP p12 p13) fun p14 =>
  (Option.bind (timer_Table_string_Stop.f D H k p14 y10 p12) fun p15 =>
  (HS.endr p15.2 l none))))))))))))
theorem J0_snd {D : Dp} {H : Hd} {k : Nat} {l : Nat} (hD : DSound Try.prog base W0 D) (hH : HSound Try.prog base W0 β0 H)  {y2 : (Option HA)} {y5 : (Option HA)} {y10 : (List UInt8)} {S : HS} {p : HV × HS} {g0 g1 g3 g4 g6 g7 g8 g9 g11 g12 g13 g14 g15 g16 g17 g18 g19 : HV} (h : J0 D H k l y2 y5 y10 S = some p) : HRun Try.prog base W0 β0 11 (some l) [.code c9, .beginRound, .code c10] ⟨[g0, g1, (.ptr y2), g3, g4, (.ptr y5), g6, g7, g8, g9, (.str y10), g11, g12, g13, g14, g15, g16, g17, g18, g19], []⟩ S (fun v S1 => v = p.1 ∧ S1 = p.2) := by
  unfold J0 at h
  refine q_region e9 rfl ?_
  refine q_op (dst := some 6) rfl (fun _ ho => ok_assign ho (.tmp rfl)) ?_
  refine hr_region_end ?_
  try dsimp only [HAct.put, List.set_cons_zero, List.set_cons_succ]
  obtain ⟨p5, hp5, h⟩ := bindo h
  refine q_begin hp5 ?_
  refine q_block e10 ?_
  refine q_seq e11 ?_
  refine q_region e12 rfl ?_
  obtain ⟨p6, hp6, h⟩ := bindo h
  obtain ⟨p7, hp7, h⟩ := bindo h
  refine q_op (dst := some 12) rfl (fun _ ho => ok_load_s ho sc34 (.tmp rfl) hp6 (ldSl_out hp7)) ?_
  refine q_op (dst := some 13) rfl (fun _ ho => ok_move ho (.tmp rfl)) ?_
  obtain ⟨p8, hp8, h⟩ := leto h
  refine q_op (dst := some 14) rfl (fun _ ho => ok_buildSlice_s (xs := [(.tmp 13)]) el34 ho rfl rfl (by decide) (.cons (.tmp rfl) Evs.nil) rfl rfl hp8) ?_
  obtain ⟨p9, hp9, h⟩ := bindo h
  obtain ⟨p10, hp10, h⟩ := bindo h
  refine q_op (dst := some 15) rfl (fun _ ho => ok_append (s := p7) (s1 := (p8.1)) el34 ho rfl rfl ⟨_, tu34⟩ (.tmp rfl) (.tmp rfl) hp9 hp10) ?_
  try dsimp only [HAct.put, List.set_cons_zero, List.set_cons_succ]
  obtain ⟨p11, hp11, h⟩ := bindo h
  obtain ⟨p12, hp12, h⟩ := bindo h
  refine q_op (dst := none) rfl (fun _ ho => ok_store_s (v := (Sl.hv (p10.1))) ho sz34 (.tmp rfl) hp11 (.tmp rfl) rfl hp12) ?_
  refine hr_region_end ?_
  try dsimp only [HAct.put, List.set_cons_zero, List.set_cons_succ]
  refine q_region e13 rfl ?_
  obtain ⟨p13, hp13, h⟩ := bindo h
  obtain ⟨p14, hp14, h⟩ := bindo h
  refine q_op (dst := some 16) rfl (fun _ ho => ok_load_s ho sc25 (.tmp rfl) hp13 (ldP_out hp14)) ?_
  refine q_op (dst := some 17) rfl (fun _ ho => ok_move ho (.tmp rfl)) ?_
  obtain ⟨p15, hp15, h⟩ := bindo h
  refine q_call (dst := some 18) rfl (.func _) (.cons (.tmp rfl) (.cons (.tmp rfl) Evs.nil)) (HInv.static timer_Table_string_Stop.at_ timer_Table_string_Stop.body (timer_Table_string_Stop.snd hD hH hp15)) ?_
  rintro _ _ ⟨rfl, rfl⟩
  refine hr_region_end ?_
  try dsimp only [HAct.put, List.set_cons_zero, List.set_cons_succ]
  refine hr_inBlock ?_
  exact q_round_end h ⟨rfl, rfl⟩
def f (D : Dp) (H : Hd) (k : Nat) (x0 : (Option HA)) (x1 : Int) (S : HS) : Option ((Sl) × HS) :=
  (letv (HS.new S (.cells 1 [[(.ptr x0)]] true)) fun p1 =>
  (letv (HS.new p1 (.cells 1 [[(Sl.hv Sl.nil)]] true)) fun p2 =>
  (Option.bind (HS.ldP p2 (HA.cell0 S.next)) fun p3 =>
  (Option.bind (timer_Table_string_Due.f k p3 x1 p2) fun p4 =>
  (Option.bind (D (Hd.set H (HS.next p4.2 + 1) fun vs T =>
  (Option.bind (HS.lp T (HS.next p4.2 + 1)) fun u19 =>
  (Option.bind (args2 vs) fun ar16 =>
  (Option.bind (dS ar16.1) fun p17 =>
  (Option.bind (dI .i64 ar16.2) fun p18 =>
  (J0 D H k (HS.next p4.2 + 1) (some (HA.cell0 S.next)) (some (HA.cell0 p1.next)) p17 T)))))) p4.1 [.fn (.yield (HS.next p4.2 + 1)) [] []] (HS.new (HS.new p4.2 .defer) (.loop .ready none))) fun p20 =>
  (Option.bind (HS.finish p20.2 (HS.next p4.2 + 1)) fun p21 =>
  (Option.bind (pcode p21.1) fun n22 =>
  (if n22 = 0 then
  (Option.bind (HS.ldSl p21.2 (HA.cell0 p1.next)) fun p24 =>
  (Option.bind (HS.leave p21.2 (HS.next p4.2 :: [])) fun p25 =>
  some (p24, p25))) else
  none))))))))
theorem snd {D : Dp} {H : Hd} {k : Nat} {x0 : (Option HA)} {x1 : Int} {S : HS} (hD : DSound Try.prog base W0 D) (hH : HSound Try.prog base W0 β0 H)  {p : (Sl) × HS} (h : f D H k x0 x1 S = some p) : HCall Try.prog base W0 β0 11 [(.ptr x0), (.int .i64 x1)] S (fun v S1 => v = (Sl.hv p.1) ∧ S1 = p.2) := by
  unfold f at h
  refine HCall.of_run at_.at_ body ?_
  show HRun Try.prog base W0 β0 11 none [.code c0] ⟨[(.ptr x0), (.int .i64 x1), .tup [], .tup [], .tup [], .tup [], .tup [], .tup [], .tup [], .tup [], .tup [], .tup [], .tup [], .tup [], .tup [], .tup [], .tup [], .tup [], .tup [], .tup []], []⟩ S _
  refine q_seq e0 ?_
  refine q_region e1 rfl ?_
  obtain ⟨p1, hp1, h⟩ := leto h
  refine q_op (dst := some 2) rfl (fun _ ho => ok_box_e ho (.tmp rfl) (Nat.zero_lt_succ _) rfl hp1) ?_
  refine q_op (dst := some 4) rfl (fun _ ho => ok_assign ho (.const fun _ => .slNil none)) ?_
  refine hr_region_end ?_
  try dsimp only [HAct.put, List.set_cons_zero, List.set_cons_succ]
  refine q_seq e2 ?_
  refine q_region e3 rfl ?_
  obtain ⟨p2, hp2, h⟩ := leto h
  refine q_op (dst := some 5) rfl (fun _ ho => ok_alloc_e ho zi34 zr34 (by decide) rfl hp2) ?_
  refine hr_region_end ?_
  try dsimp only [HAct.put, List.set_cons_zero, List.set_cons_succ]
  refine q_seq e4 ?_
  refine q_seq e5 ?_
  refine q_region e6 rfl ?_
  obtain ⟨p3, hp3, h⟩ := bindo h
  refine q_op (dst := some 7) rfl (fun _ ho => ok_load_s ho sc25 (.tmp rfl) rfl (ldP_out hp3)) ?_
  refine q_op (dst := some 8) rfl (fun _ ho => ok_move ho (.tmp rfl)) ?_
  obtain ⟨p4, hp4, h⟩ := bindo h
  refine q_call (dst := some 9) rfl (.func _) (.cons (.tmp rfl) (.cons (.tmp rfl) Evs.nil)) (HInv.static timer_Table_string_Due.at_ timer_Table_string_Due.body (timer_Table_string_Due.snd  hp4)) ?_
  rintro _ _ ⟨rfl, rfl⟩
  refine hr_region_end ?_
  try dsimp only [HAct.put, List.set_cons_zero, List.set_cons_succ]
  refine q_block e7 ?_
  obtain ⟨p20, hp20, h⟩ := bindo h
  obtain ⟨p21, hp21, h⟩ := bindo h
  obtain ⟨n22, hn22, h⟩ := bindo h
  refine q_range (D := D) (H := H) e8 (.tmp rfl) hD hH hp20 hp21 ?_ ?_
  · intro β1 hle hLA vs T u T' hr
    obtain ⟨u19, hu19, hr⟩ := bindo hr
    obtain ⟨ar16, har16, hr⟩ := bindo hr
    obtain ⟨p17, hp17, hr⟩ := bindo hr
    obtain ⟨p18, hp18, hr⟩ := bindo hr
    rw [args2_out har16]
    refine q_yield2 hLA hu19 rfl rfl ?_
    rw [dS_out hp17, dI_out hp18]
    simp only [HAct.params, List.set_cons_zero, List.set_cons_succ]
    exact J0_snd hD (hH.up hle) hr
  · rcases ifc h with ⟨hc23, h⟩ | ⟨hc23, h⟩
    · rw [pcode0 hn22 hc23]
      simp only [jumped_none, jumped_some]
      refine hr_inBlock ?_
      refine q_seq e14 ?_
      refine q_region e15 rfl ?_
      obtain ⟨p24, hp24, h⟩ := bindo h
      refine q_op (dst := some 19) rfl (fun _ ho => ok_load_s ho sc34 (.tmp rfl) rfl (ldSl_out hp24)) ?_
      refine q_op (dst := some 4) rfl (fun _ ho => ok_assign ho (.tmp rfl)) ?_
      refine hr_region_end ?_
      try dsimp only [HAct.put, List.set_cons_zero, List.set_cons_succ]
      obtain ⟨p25, hp25, h⟩ := bindo h
      cases h
      exact q_ret e16 at_.at_ hp25 (res1 rfl rfl) ⟨rfl, rfl⟩
    · cases h
end
end timer_Table_string_Take
namespace timer_Table_string_Len
abbrev id : Nat := 17
theorem at_ : FnAt Try.prog 17 Try.f17 := ⟨Try.func17, by kernel_rfl⟩
noncomputable def c0 : Code := (Try.f17.body).getD .skip
noncomputable def c1 : Code := match c0 with | .seq x _ => x | _ => .skip
noncomputable def c2 : Code := match c0 with | .seq _ x => x | _ => .skip
noncomputable def c3 : Code := match c2 with | .seq x _ => x | _ => .skip
noncomputable def c4 : Code := match c3 with | .seq x _ => x | _ => .skip
noncomputable def c5 : Code := match c3 with | .seq _ x => x | _ => .skip
noncomputable def c6 : Code := match c5 with | .cond _ x _ => x | _ => .skip
noncomputable def c7 : Code := match c6 with | .seq x _ => x | _ => .skip
noncomputable def c8 : Code := match c6 with | .seq _ x => x | _ => .skip
noncomputable def c9 : Code := match c5 with | .cond _ _ x => x | _ => .skip
noncomputable def c10 : Code := match c2 with | .seq _ x => x | _ => .skip
noncomputable def c11 : Code := match c10 with | .seq x _ => x | _ => .skip
noncomputable def c12 : Code := match c10 with | .seq _ x => x | _ => .skip
theorem e0 : c0 = .seq c1 c2 := by kernel_rfl
noncomputable def r1 : Array Oper := match c1 with | .region _ x _ => x | _ => #[]
theorem e1 : c1 = .region 0 r1 false := by kernel_rfl
theorem e2 : c2 = .seq c3 c10 := by kernel_rfl
theorem e3 : c3 = .seq c4 c5 := by kernel_rfl
noncomputable def r4 : Array Oper := match c4 with | .region _ x _ => x | _ => #[]
theorem e4 : c4 = .region 1 r4 false := by kernel_rfl
theorem e5 : c5 = .cond (.tmp 4) c6 c9 := by kernel_rfl
theorem e6 : c6 = .seq c7 c8 := by kernel_rfl
noncomputable def r7 : Array Oper := match c7 with | .region _ x _ => x | _ => #[]
theorem e7 : c7 = .region 2 r7 false := by kernel_rfl
theorem e8 : c8 = .ret := by kernel_rfl
theorem e9 : c9 = .skip := by kernel_rfl
theorem e10 : c10 = .seq c11 c12 := by kernel_rfl
noncomputable def r11 : Array Oper := match c11 with | .region _ x _ => x | _ => #[]
theorem e11 : c11 = .region 3 r11 false := by kernel_rfl
theorem e12 : c12 = .ret := by kernel_rfl
theorem body : Try.f17.body = some c0 := by kernel_rfl
section
variable {base : Nat} {W0 : World} {β0 : Bt}
def f (x0 : (Option HA)) (S : HS) : Option ((Int) × HS) :=
  (if (Option.isNone x0) = true then
  some (0, S) else
  (Option.bind (x0) fun p2 =>
  (Option.bind (HS.ldSl S (HA.fld p2 0)) fun p3 =>
  some ((Sl.len p3 : Int), S))))
theorem snd {x0 : (Option HA)} {S : HS}  {p : (Int) × HS} (h : f x0 S = some p) : HCall Try.prog base W0 β0 17 [(.ptr x0)] S (fun v S1 => v = (.int .i64 p.1) ∧ S1 = p.2) := by
  unfold f at h
  refine HCall.of_run at_.at_ body ?_
  show HRun Try.prog base W0 β0 17 none [.code c0] ⟨[(.ptr x0), .tup [], .tup [], .tup [], .tup [], .tup [], .tup [], .tup [], .tup [], .tup []], []⟩ S _
  refine q_seq e0 ?_
  refine q_region e1 rfl ?_
  refine q_op (dst := some 2) rfl (fun _ ho => ok_assign ho (.int _ _)) ?_
  refine hr_region_end ?_
  try dsimp only [HAct.put, List.set_cons_zero, List.set_cons_succ]
  refine q_seq e2 ?_
  refine q_seq e3 ?_
  refine q_region e4 rfl ?_
  refine q_op (dst := some 3) rfl (fun _ ho => ok_move ho (.tmp rfl)) ?_
  refine q_op (dst := some 4) rfl (fun _ ho => ok_nil_ptr ho tu25 (.tmp rfl) (.inl ⟨rfl, rfl⟩)) ?_
  refine hr_region_end ?_
  try dsimp only [HAct.put, List.set_cons_zero, List.set_cons_succ]
  rcases ifc h with ⟨hc1, h⟩ | ⟨hc1, h⟩
  · refine q_cond_t e5 (.tmp rfl) hc1 ?_
    refine q_seq e6 ?_
    refine q_region e7 rfl ?_
    refine q_op (dst := some 2) rfl (fun _ ho => ok_assign ho (.int _ _)) ?_
    refine hr_region_end ?_
    try dsimp only [HAct.put, List.set_cons_zero, List.set_cons_succ]
    cases h
    exact q_ret e8 at_.at_ rfl (res1 rfl rfl) ⟨rfl, rfl⟩
  · refine q_cond_f e5 (.tmp rfl) (bfalse hc1) ?_
    refine q_skipc e9 ?_
    refine q_seq e10 ?_
    refine q_region e11 rfl ?_
    refine q_op (dst := some 5) rfl (fun _ ho => ok_move ho (.tmp rfl)) ?_
    obtain ⟨p2, hp2, h⟩ := bindo h
    refine q_op (dst := some 6) rfl (fun _ ho => ok_nilCheck_p ho (.tmp rfl) hp2) ?_
    refine q_op (dst := some 7) rfl (fun _ ho => ok_fieldAddr_s ho fi60_0 (by decide) (.tmp rfl) rfl) ?_
    obtain ⟨p3, hp3, h⟩ := bindo h
    refine q_op (dst := some 8) rfl (fun _ ho => ok_load_s ho sc58 (.tmp rfl) rfl (ldSl_out hp3)) ?_
    try dsimp only [HAct.put, List.set_cons_zero, List.set_cons_succ]
    refine q_op (dst := some 9) rfl (fun _ ho => ok_len_sl (q := Sl.a p3) (n := Sl.len p3) (z := Sl.cap p3) ho rfl tu58 (.tmp rfl)) ?_
    refine q_op (dst := some 2) rfl (fun _ ho => ok_assign ho (.tmp rfl)) ?_
    refine hr_region_end ?_
    try dsimp only [HAct.put, List.set_cons_zero, List.set_cons_succ]
    cases h
    exact q_ret e12 at_.at_ rfl (res1 rfl rfl) ⟨rfl, rfl⟩
end
end timer_Table_string_Len
namespace rollcalllaw09_awake
abbrev id : Nat := 6
theorem at_ : FnAt Try.prog 6 Try.f6 := ⟨Try.func6, by kernel_rfl⟩
noncomputable def c0 : Code := (Try.f6.body).getD .skip
noncomputable def c1 : Code := match c0 with | .seq x _ => x | _ => .skip
noncomputable def c2 : Code := match c0 with | .seq _ x => x | _ => .skip
noncomputable def c3 : Code := match c2 with | .seq x _ => x | _ => .skip
noncomputable def c4 : Code := match c2 with | .seq _ x => x | _ => .skip
noncomputable def c5 : Code := match c4 with | .seq x _ => x | _ => .skip
noncomputable def c6 : Code := match c4 with | .seq _ x => x | _ => .skip
noncomputable def c7 : Code := match c6 with | .seq x _ => x | _ => .skip
noncomputable def c8 : Code := match c6 with | .seq _ x => x | _ => .skip
noncomputable def c9 : Code := match c8 with | .seq x _ => x | _ => .skip
noncomputable def c10 : Code := match c8 with | .seq _ x => x | _ => .skip
noncomputable def c11 : Code := match c10 with | .seq x _ => x | _ => .skip
noncomputable def c12 : Code := match c10 with | .seq _ x => x | _ => .skip
noncomputable def c13 : Code := match c12 with | .seq x _ => x | _ => .skip
noncomputable def c14 : Code := match c12 with | .seq _ x => x | _ => .skip
theorem e0 : c0 = .seq c1 c2 := by kernel_rfl
noncomputable def r1 : Array Oper := match c1 with | .region _ x _ => x | _ => #[]
theorem e1 : c1 = .region 0 r1 false := by kernel_rfl
theorem e2 : c2 = .seq c3 c4 := by kernel_rfl
noncomputable def r3 : Array Oper := match c3 with | .region _ x _ => x | _ => #[]
theorem e3 : c3 = .region 1 r3 false := by kernel_rfl
theorem e4 : c4 = .seq c5 c6 := by kernel_rfl
noncomputable def r5 : Array Oper := match c5 with | .region _ x _ => x | _ => #[]
theorem e5 : c5 = .region 2 r5 false := by kernel_rfl
theorem e6 : c6 = .seq c7 c8 := by kernel_rfl
noncomputable def r7 : Array Oper := match c7 with | .region _ x _ => x | _ => #[]
theorem e7 : c7 = .region 3 r7 false := by kernel_rfl
theorem e8 : c8 = .seq c9 c10 := by kernel_rfl
noncomputable def r9 : Array Oper := match c9 with | .region _ x _ => x | _ => #[]
theorem e9 : c9 = .region 4 r9 false := by kernel_rfl
theorem e10 : c10 = .seq c11 c12 := by kernel_rfl
noncomputable def r11 : Array Oper := match c11 with | .region _ x _ => x | _ => #[]
theorem e11 : c11 = .region 5 r11 false := by kernel_rfl
theorem e12 : c12 = .seq c13 c14 := by kernel_rfl
noncomputable def r13 : Array Oper := match c13 with | .region _ x _ => x | _ => #[]
theorem e13 : c13 = .region 6 r13 false := by kernel_rfl
theorem e14 : c14 = .ret := by kernel_rfl
theorem body : Try.f6.body = some c0 := by kernel_rfl
section
variable {base : Nat} {W0 : World} {β0 : Bt}
def J3 (D : Dp) (H : Hd) (k : Nat) (y37 : Bool) (S : HS) : Option ((Bool) × HS) :=
  some (y37, S)
theorem J3_snd {D : Dp} {H : Hd} {k : Nat} (hD : DSound Try.prog base W0 D) (hH : HSound Try.prog base W0 β0 H)  {y37 : Bool} {S : HS} {p : (Bool) × HS} {g0 g1 g2 g3 g4 g5 g6 g7 g8 g9 g10 g11 g12 g13 g14 g15 g16 g17 g18 g19 g20 g21 g22 g23 g24 g25 g26 g27 g28 g29 g30 g31 g32 g33 g34 g35 g36 : HV} (h : J3 D H k y37 S = some p) : HRun Try.prog base W0 β0 6 none [.inRegion r13 [26], .code c14] ⟨[g0, g1, g2, g3, g4, g5, g6, g7, g8, g9, g10, g11, g12, g13, g14, g15, g16, g17, g18, g19, g20, g21, g22, g23, g24, g25, g26, g27, g28, g29, g30, g31, g32, g33, g34, g35, g36, (.bool y37)], []⟩ S (fun v S1 => v = (.bool p.1) ∧ S1 = p.2) := by
  unfold J3 at h
  refine q_op (dst := some 0) rfl (fun _ ho => ok_assign ho (.tmp rfl)) ?_
  refine hr_region_end ?_
  try dsimp only [HAct.put, List.set_cons_zero, List.set_cons_succ]
  cases h
  exact q_ret e14 at_.at_ rfl (res1 rfl rfl) ⟨rfl, rfl⟩
def J2 (D : Dp) (H : Hd) (k : Nat) (y1 : (Option HA)) (y32 : Bool) (S : HS) : Option ((Bool) × HS) :=
  (if y32 = true then
  (Option.bind (timer_Table_string_Len.f y1 S) fun p16 =>
  J3 D H k (decide (p16.1 = 0)) p16.2) else
  J3 D H k false S)
theorem J2_snd {D : Dp} {H : Hd} {k : Nat} (hD : DSound Try.prog base W0 D) (hH : HSound Try.prog base W0 β0 H)  {y1 : (Option HA)} {y32 : Bool} {S : HS} {p : (Bool) × HS} {g0 g2 g3 g4 g5 g6 g7 g8 g9 g10 g11 g12 g13 g14 g15 g16 g17 g18 g19 g20 g21 g22 g23 g24 g25 g26 g27 g28 g29 g30 g31 g33 g34 g35 g36 g37 : HV} (h : J2 D H k y1 y32 S = some p) : HRun Try.prog base W0 β0 6 none [.inRegion r13 [21, 22, 23, 24, 25, 26], .code c14] ⟨[g0, (.ptr y1), g2, g3, g4, g5, g6, g7, g8, g9, g10, g11, g12, g13, g14, g15, g16, g17, g18, g19, g20, g21, g22, g23, g24, g25, g26, g27, g28, g29, g30, g31, (.bool y32), g33, g34, g35, g36, g37], []⟩ S (fun v S1 => v = (.bool p.1) ∧ S1 = p.2) := by
  unfold J2 at h
  refine q_op (dst := some 33) rfl (fun _ ho => ok_move ho (.tmp rfl)) ?_
  rcases ifc h with ⟨hc15, h⟩ | ⟨hc15, h⟩
  · refine q_op_g (t := 33) (dst := some 34) rfl rfl rfl hc15 (fun _ ho => ok_move ho (.tmp rfl)) ?_
    obtain ⟨p16, hp16, h⟩ := bindo h
    refine q_call_g (t := 33) (dst := some 35) rfl rfl rfl hc15 (.func _) (.cons (.tmp rfl) Evs.nil) (HInv.static timer_Table_string_Len.at_ timer_Table_string_Len.body (timer_Table_string_Len.snd  hp16)) ?_
    rintro _ _ ⟨rfl, rfl⟩
    try dsimp only [HAct.put, List.set_cons_zero, List.set_cons_succ]
    refine q_op_g (t := 33) (dst := some 36) rfl rfl rfl hc15 (fun _ ho => ok_ibin ho (.tmp rfl) (.int _ _) rfl) ?_
    refine q_op (dst := some 37) rfl (fun _ ho => ok_pick_tt ho (.tmp rfl) hc15 (.tmp rfl)) ?_
    try dsimp only [HAct.put, List.set_cons_zero, List.set_cons_succ]
    exact J3_snd hD hH h
  · refine q_skip (dst := some 34) (t := 33) rfl rfl rfl (bfalse hc15) ?_
    refine q_skip (dst := some 35) (t := 33) rfl rfl rfl (bfalse hc15) ?_
    try dsimp only [HAct.put, List.set_cons_zero, List.set_cons_succ]
    refine q_skip (dst := some 36) (t := 33) rfl rfl rfl (bfalse hc15) ?_
    refine q_op (dst := some 37) rfl (fun _ ho => ok_pick_ff ho (.tmp rfl) (bfalse hc15) (.bool _)) ?_
    try dsimp only [HAct.put, List.set_cons_zero, List.set_cons_succ]
    exact J3_snd hD hH h
def J1 (D : Dp) (H : Hd) (k : Nat) (y1 : (Option HA)) (y2 : Sl) (y26 : Bool) (S : HS) : Option ((Bool) × HS) :=
  (if y26 = true then
  (Option.bind (HS.idx S y2 2 1) fun p13 =>
  (Option.bind (HS.ldS S p13) fun p14 =>
  J2 D H k y1 (decide (p14 = ([98] : List UInt8))) S)) else
  J2 D H k y1 false S)
theorem J1_snd {D : Dp} {H : Hd} {k : Nat} (hD : DSound Try.prog base W0 D) (hH : HSound Try.prog base W0 β0 H)  {y1 : (Option HA)} {y2 : Sl} {y26 : Bool} {S : HS} {p : (Bool) × HS} {g0 g3 g4 g5 g6 g7 g8 g9 g10 g11 g12 g13 g14 g15 g16 g17 g18 g19 g20 g21 g22 g23 g24 g25 g27 g28 g29 g30 g31 g32 g33 g34 g35 g36 g37 : HV} (h : J1 D H k y1 y2 y26 S = some p) : HRun Try.prog base W0 β0 6 none [.inRegion r13 [15, 16, 17, 18, 19, 20, 21, 22, 23, 24, 25, 26], .code c14] ⟨[g0, (.ptr y1), (Sl.hv y2), g3, g4, g5, g6, g7, g8, g9, g10, g11, g12, g13, g14, g15, g16, g17, g18, g19, g20, g21, g22, g23, g24, g25, (.bool y26), g27, g28, g29, g30, g31, g32, g33, g34, g35, g36, g37], []⟩ S (fun v S1 => v = (.bool p.1) ∧ S1 = p.2) := by
  unfold J1 at h
  refine q_op (dst := some 27) rfl (fun _ ho => ok_move ho (.tmp rfl)) ?_
  try dsimp only [HAct.put, List.set_cons_zero, List.set_cons_succ]
  rcases ifc h with ⟨hc12, h⟩ | ⟨hc12, h⟩
  · refine q_op_g (t := 27) (dst := some 28) rfl rfl rfl hc12 (fun _ ho => ok_move ho (.tmp rfl)) ?_
    obtain ⟨p13, hp13, h⟩ := bindo h
    refine q_op_g (t := 27) (dst := some 29) rfl rfl rfl hc12 (fun _ ho => ok_indexAddr (s := y2) ho tu34 sz9 (.tmp rfl) (.int _ _) hp13) ?_
    obtain ⟨p14, hp14, h⟩ := bindo h
    refine q_op_g (t := 27) (dst := some 30) rfl rfl rfl hc12 (fun _ ho => ok_load_s ho sc9 (.tmp rfl) rfl (ldS_out hp14)) ?_
    refine q_op_g (t := 27) (dst := some 31) rfl rfl rfl hc12 (fun _ ho => ok_sbin ho (.tmp rfl) (.str _) rfl) ?_
    try dsimp only [HAct.put, List.set_cons_zero, List.set_cons_succ]
    refine q_op (dst := some 32) rfl (fun _ ho => ok_pick_tt ho (.tmp rfl) hc12 (.tmp rfl)) ?_
    try dsimp only [HAct.put, List.set_cons_zero, List.set_cons_succ]
    exact J2_snd hD hH h
  · refine q_skip (dst := some 28) (t := 27) rfl rfl rfl (bfalse hc12) ?_
    refine q_skip (dst := some 29) (t := 27) rfl rfl rfl (bfalse hc12) ?_
    refine q_skip (dst := some 30) (t := 27) rfl rfl rfl (bfalse hc12) ?_
    refine q_skip (dst := some 31) (t := 27) rfl rfl rfl (bfalse hc12) ?_
    try dsimp only [HAct.put, List.set_cons_zero, List.set_cons_succ]
    refine q_op (dst := some 32) rfl (fun _ ho => ok_pick_ff ho (.tmp rfl) (bfalse hc12) (.bool _)) ?_
    try dsimp only [HAct.put, List.set_cons_zero, List.set_cons_succ]
    exact J2_snd hD hH h
def J0 (D : Dp) (H : Hd) (k : Nat) (y1 : (Option HA)) (y2 : Sl) (y20 : Bool) (S : HS) : Option ((Bool) × HS) :=
  (if y20 = true then
  (Option.bind (HS.idx S y2 1 1) fun p10 =>
  (Option.bind (HS.ldS S p10) fun p11 =>
  J1 D H k y1 y2 (decide (p11 = ([97] : List UInt8))) S)) else
  J1 D H k y1 y2 false S)
theorem J0_snd {D : Dp} {H : Hd} {k : Nat} (hD : DSound Try.prog base W0 D) (hH : HSound Try.prog base W0 β0 H)  {y1 : (Option HA)} {y2 : Sl} {y20 : Bool} {S : HS} {p : (Bool) × HS} {g0 g3 g4 g5 g6 g7 g8 g9 g10 g11 g12 g13 g14 g15 g16 g17 g18 g19 g21 g22 g23 g24 g25 g26 g27 g28 g29 g30 g31 g32 g33 g34 g35 g36 g37 : HV} (h : J0 D H k y1 y2 y20 S = some p) : HRun Try.prog base W0 β0 6 none [.inRegion r13 [9, 10, 11, 12, 13, 14, 15, 16, 17, 18, 19, 20, 21, 22, 23, 24, 25, 26], .code c14] ⟨[g0, (.ptr y1), (Sl.hv y2), g3, g4, g5, g6, g7, g8, g9, g10, g11, g12, g13, g14, g15, g16, g17, g18, g19, (.bool y20), g21, g22, g23, g24, g25, g26, g27, g28, g29, g30, g31, g32, g33, g34, g35, g36, g37], []⟩ S (fun v S1 => v = (.bool p.1) ∧ S1 = p.2) := by
  unfold J0 at h
  refine q_op (dst := some 21) rfl (fun _ ho => ok_move ho (.tmp rfl)) ?_
  rcases ifc h with ⟨hc9, h⟩ | ⟨hc9, h⟩
  · refine q_op_g (t := 21) (dst := some 22) rfl rfl rfl hc9 (fun _ ho => ok_move ho (.tmp rfl)) ?_
    obtain ⟨p10, hp10, h⟩ := bindo h
    refine q_op_g (t := 21) (dst := some 23) rfl rfl rfl hc9 (fun _ ho => ok_indexAddr (s := y2) ho tu34 sz9 (.tmp rfl) (.int _ _) hp10) ?_
    try dsimp only [HAct.put, List.set_cons_zero, List.set_cons_succ]
    obtain ⟨p11, hp11, h⟩ := bindo h
    refine q_op_g (t := 21) (dst := some 24) rfl rfl rfl hc9 (fun _ ho => ok_load_s ho sc9 (.tmp rfl) rfl (ldS_out hp11)) ?_
    refine q_op_g (t := 21) (dst := some 25) rfl rfl rfl hc9 (fun _ ho => ok_sbin ho (.tmp rfl) (.str _) rfl) ?_
    refine q_op (dst := some 26) rfl (fun _ ho => ok_pick_tt ho (.tmp rfl) hc9 (.tmp rfl)) ?_
    try dsimp only [HAct.put, List.set_cons_zero, List.set_cons_succ]
    exact J1_snd hD hH h
  · refine q_skip (dst := some 22) (t := 21) rfl rfl rfl (bfalse hc9) ?_
    refine q_skip (dst := some 23) (t := 21) rfl rfl rfl (bfalse hc9) ?_
    try dsimp only [HAct.put, List.set_cons_zero, List.set_cons_succ]
    refine q_skip (dst := some 24) (t := 21) rfl rfl rfl (bfalse hc9) ?_
    refine q_skip (dst := some 25) (t := 21) rfl rfl rfl (bfalse hc9) ?_
    refine q_op (dst := some 26) rfl (fun _ ho => ok_pick_ff ho (.tmp rfl) (bfalse hc9) (.bool _)) ?_
    try dsimp only [HAct.put, List.set_cons_zero, List.set_cons_succ]
    exact J1_snd hD hH h
def f (D : Dp) (H : Hd) (k : Nat) (S : HS) : Option ((Bool) × HS) :=
  (Option.bind (timer_New_string.f S) fun p1 =>
  (Option.bind (timer_Table_string_Set.f D H k p1.1 ([98] : List UInt8) 5 p1.2) fun p2 =>
  (Option.bind (timer_Table_string_Set.f D H k p1.1 ([97] : List UInt8) 5 p2.2) fun p3 =>
  (Option.bind (timer_Table_string_Set.f D H k p1.1 ([99] : List UInt8) 3 p3.2) fun p4 =>
  (Option.bind (timer_Table_string_Take.f D H k p1.1 5 p4.2) fun p5 =>
  (if (Sl.len p5.1 : Int) = 3 then
  (Option.bind (HS.idx p5.2 p5.1 0 1) fun p7 =>
  (Option.bind (HS.ldS p5.2 p7) fun p8 =>
  J0 D H k p1.1 p5.1 (decide (p8 = ([99] : List UInt8))) p5.2)) else
  J0 D H k p1.1 p5.1 false p5.2))))))
theorem snd {D : Dp} {H : Hd} {k : Nat} {S : HS} (hD : DSound Try.prog base W0 D) (hH : HSound Try.prog base W0 β0 H)  {p : (Bool) × HS} (h : f D H k S = some p) : HCall Try.prog base W0 β0 6 [] S (fun v S1 => v = (.bool p.1) ∧ S1 = p.2) := by
  unfold f at h
  refine HCall.of_run at_.at_ body ?_
  show HRun Try.prog base W0 β0 6 none [.code c0] ⟨[.tup [], .tup [], .tup [], .tup [], .tup [], .tup [], .tup [], .tup [], .tup [], .tup [], .tup [], .tup [], .tup [], .tup [], .tup [], .tup [], .tup [], .tup [], .tup [], .tup [], .tup [], .tup [], .tup [], .tup [], .tup [], .tup [], .tup [], .tup [], .tup [], .tup [], .tup [], .tup [], .tup [], .tup [], .tup [], .tup [], .tup [], .tup []], []⟩ S _
  refine q_seq e0 ?_
  refine q_region e1 rfl ?_
  refine q_op (dst := some 0) rfl (fun _ ho => ok_assign ho (.bool _)) ?_
  refine hr_region_end ?_
  try dsimp only [HAct.put, List.set_cons_zero, List.set_cons_succ]
  refine q_seq e2 ?_
  refine q_region e3 rfl ?_
  obtain ⟨p1, hp1, h⟩ := bindo h
  refine q_call (dst := some 3) rfl (.func _) Evs.nil (HInv.static timer_New_string.at_ timer_New_string.body (timer_New_string.snd  hp1)) ?_
  rintro _ _ ⟨rfl, rfl⟩
  refine q_op (dst := some 1) rfl (fun _ ho => ok_assign ho (.tmp rfl)) ?_
  refine hr_region_end ?_
  try dsimp only [HAct.put, List.set_cons_zero, List.set_cons_succ]
  refine q_seq e4 ?_
  refine q_region e5 rfl ?_
  refine q_op (dst := some 4) rfl (fun _ ho => ok_move ho (.tmp rfl)) ?_
  obtain ⟨p2, hp2, h⟩ := bindo h
  refine q_call (dst := some 5) rfl (.func _) (.cons (.tmp rfl) (.cons (.str _) (.cons (.int _ _) Evs.nil))) (HInv.static timer_Table_string_Set.at_ timer_Table_string_Set.body (timer_Table_string_Set.snd hD hH hp2)) ?_
  rintro _ _ ⟨rfl, rfl⟩
  refine hr_region_end ?_
  try dsimp only [HAct.put, List.set_cons_zero, List.set_cons_succ]
  refine q_seq e6 ?_
  refine q_region e7 rfl ?_
  refine q_op (dst := some 6) rfl (fun _ ho => ok_move ho (.tmp rfl)) ?_
  obtain ⟨p3, hp3, h⟩ := bindo h
  refine q_call (dst := some 7) rfl (.func _) (.cons (.tmp rfl) (.cons (.str _) (.cons (.int _ _) Evs.nil))) (HInv.static timer_Table_string_Set.at_ timer_Table_string_Set.body (timer_Table_string_Set.snd hD hH hp3)) ?_
  rintro _ _ ⟨rfl, rfl⟩
  refine hr_region_end ?_
  try dsimp only [HAct.put, List.set_cons_zero, List.set_cons_succ]
  refine q_seq e8 ?_
  refine q_region e9 rfl ?_
  refine q_op (dst := some 8) rfl (fun _ ho => ok_move ho (.tmp rfl)) ?_
  obtain ⟨p4, hp4, h⟩ := bindo h
  refine q_call (dst := some 9) rfl (.func _) (.cons (.tmp rfl) (.cons (.str _) (.cons (.int _ _) Evs.nil))) (HInv.static timer_Table_string_Set.at_ timer_Table_string_Set.body (timer_Table_string_Set.snd hD hH hp4)) ?_
  rintro _ _ ⟨rfl, rfl⟩
  refine hr_region_end ?_
  try dsimp only [HAct.put, List.set_cons_zero, List.set_cons_succ]
  refine q_seq e10 ?_
  refine q_region e11 rfl ?_
  refine q_op (dst := some 10) rfl (fun _ ho => ok_move ho (.tmp rfl)) ?_
  obtain ⟨p5, hp5, h⟩ := bindo h
  refine q_call (dst := some 11) rfl (.func _) (.cons (.tmp rfl) (.cons (.int _ _) Evs.nil)) (HInv.static timer_Table_string_Take.at_ timer_Table_string_Take.body (timer_Table_string_Take.snd hD hH hp5)) ?_
  rintro _ _ ⟨rfl, rfl⟩
  refine q_op (dst := some 2) rfl (fun _ ho => ok_assign ho (.tmp rfl)) ?_
  refine hr_region_end ?_
  try dsimp only [HAct.put, List.set_cons_zero, List.set_cons_succ]
  refine q_seq e12 ?_
  refine q_region e13 rfl ?_
  refine q_op (dst := some 12) rfl (fun _ ho => ok_move ho (.tmp rfl)) ?_
  refine q_op (dst := some 13) rfl (fun _ ho => ok_len_sl (q := Sl.a p5.1) (n := Sl.len p5.1) (z := Sl.cap p5.1) ho rfl tu34 (.tmp rfl)) ?_
  refine q_op (dst := some 14) rfl (fun _ ho => ok_ibin ho (.tmp rfl) (.int _ _) rfl) ?_
  refine q_op (dst := some 15) rfl (fun _ ho => ok_move ho (.tmp rfl)) ?_
  try dsimp only [HAct.put, List.set_cons_zero, List.set_cons_succ]
  rcases ifc h with ⟨hc6, h⟩ | ⟨hc6, h⟩
  · refine q_op_g (t := 15) (dst := some 16) rfl rfl rfl (decide_eq_true hc6) (fun _ ho => ok_move ho (.tmp rfl)) ?_
    obtain ⟨p7, hp7, h⟩ := bindo h
    refine q_op_g (t := 15) (dst := some 17) rfl rfl rfl (decide_eq_true hc6) (fun _ ho => ok_indexAddr (s := p5.1) ho tu34 sz9 (.tmp rfl) (.int _ _) hp7) ?_
    obtain ⟨p8, hp8, h⟩ := bindo h
    refine q_op_g (t := 15) (dst := some 18) rfl rfl rfl (decide_eq_true hc6) (fun _ ho => ok_load_s ho sc9 (.tmp rfl) rfl (ldS_out hp8)) ?_
    refine q_op_g (t := 15) (dst := some 19) rfl rfl rfl (decide_eq_true hc6) (fun _ ho => ok_sbin ho (.tmp rfl) (.str _) rfl) ?_
    try dsimp only [HAct.put, List.set_cons_zero, List.set_cons_succ]
    refine q_op (dst := some 20) rfl (fun _ ho => ok_pick_tt ho (.tmp rfl) (decide_eq_true hc6) (.tmp rfl)) ?_
    try dsimp only [HAct.put, List.set_cons_zero, List.set_cons_succ]
    exact J0_snd hD hH h
  · refine q_skip (dst := some 16) (t := 15) rfl rfl rfl (decide_eq_false hc6) ?_
    refine q_skip (dst := some 17) (t := 15) rfl rfl rfl (decide_eq_false hc6) ?_
    refine q_skip (dst := some 18) (t := 15) rfl rfl rfl (decide_eq_false hc6) ?_
    refine q_skip (dst := some 19) (t := 15) rfl rfl rfl (decide_eq_false hc6) ?_
    try dsimp only [HAct.put, List.set_cons_zero, List.set_cons_succ]
    refine q_op (dst := some 20) rfl (fun _ ho => ok_pick_ff ho (.tmp rfl) (decide_eq_false hc6) (.bool _)) ?_
    try dsimp only [HAct.put, List.set_cons_zero, List.set_cons_succ]
    exact J0_snd hD hH h
end
end rollcalllaw09_awake
namespace timer_New_int
abbrev id : Nat := 20
theorem at_ : FnAt Try.prog 20 Try.f20 := ⟨Try.func20, by kernel_rfl⟩
noncomputable def c0 : Code := (Try.f20.body).getD .skip
noncomputable def c1 : Code := match c0 with | .seq x _ => x | _ => .skip
noncomputable def c2 : Code := match c0 with | .seq _ x => x | _ => .skip
noncomputable def c3 : Code := match c2 with | .seq x _ => x | _ => .skip
noncomputable def c4 : Code := match c2 with | .seq _ x => x | _ => .skip
theorem e0 : c0 = .seq c1 c2 := by kernel_rfl
noncomputable def r1 : Array Oper := match c1 with | .region _ x _ => x | _ => #[]
theorem e1 : c1 = .region 0 r1 false := by kernel_rfl
theorem e2 : c2 = .seq c3 c4 := by kernel_rfl
noncomputable def r3 : Array Oper := match c3 with | .region _ x _ => x | _ => #[]
theorem e3 : c3 = .region 1 r3 false := by kernel_rfl
theorem e4 : c4 = .ret := by kernel_rfl
theorem body : Try.f20.body = some c0 := by kernel_rfl
section
variable {base : Nat} {W0 : World} {β0 : Bt}
def f (S : HS) : Option (((Option HA)) × HS) :=
  (letv (HS.new S (.map [])) fun p1 =>
  (letv (HS.new p1 (.cells 2 [[(Sl.hv Sl.nil), (.map (some S.next))]] true)) fun p2 =>
  some ((some (HA.cell0 p1.next)), p2)))
theorem snd {S : HS}  {p : ((Option HA)) × HS} (h : f S = some p) : HCall Try.prog base W0 β0 20 [] S (fun v S1 => v = (.ptr p.1) ∧ S1 = p.2) := by
  unfold f at h
  refine HCall.of_run at_.at_ body ?_
  show HRun Try.prog base W0 β0 20 none [.code c0] ⟨[.tup [], .tup [], .tup [], .tup []], []⟩ S _
  refine q_seq e0 ?_
  refine q_region e1 rfl ?_
  refine q_op (dst := some 0) rfl (fun _ ho => ok_assign ho (.const fun _ => .ptrNil)) ?_
  refine hr_region_end ?_
  try dsimp only [HAct.put, List.set_cons_zero, List.set_cons_succ]
  refine q_seq e2 ?_
  refine q_region e3 rfl ?_
  obtain ⟨p1, hp1, h⟩ := leto h
  refine q_op (dst := some 1) rfl (fun _ ho => ok_makeMap_e ho hp1) ?_
  refine q_op (dst := some 2) rfl (fun _ ho => ok_build (is := [1]) (xs := [(.tmp 1)]) (r := [(Sl.hv Sl.nil), (.map (some S.next))]) st74 ho rfl rfl (.cons (.tmp rfl) Evs.nil) rfl) ?_
  obtain ⟨p2, hp2, h⟩ := leto h
  refine q_op (dst := some 3) rfl (fun _ ho => ok_box_e ho (.tmp rfl) (Nat.zero_lt_succ _) rfl hp2) ?_
  refine q_op (dst := some 0) rfl (fun _ ho => ok_assign ho (.tmp rfl)) ?_
  refine hr_region_end ?_
  try dsimp only [HAct.put, List.set_cons_zero, List.set_cons_succ]
  cases h
  exact q_ret e4 at_.at_ rfl (res1 rfl rfl) ⟨rfl, rfl⟩
end
end timer_New_int
namespace timer_Table_int_At
abbrev id : Nat := 43
theorem at_ : FnAt Try.prog 43 Try.f43 := ⟨Try.func43, by kernel_rfl⟩
noncomputable def c0 : Code := (Try.f43.body).getD .skip
noncomputable def c1 : Code := match c0 with | .seq x _ => x | _ => .skip
noncomputable def c2 : Code := match c0 with | .seq _ x => x | _ => .skip
noncomputable def c3 : Code := match c2 with | .seq x _ => x | _ => .skip
noncomputable def c4 : Code := match c3 with | .seq x _ => x | _ => .skip
noncomputable def c5 : Code := match c3 with | .seq _ x => x | _ => .skip
noncomputable def c6 : Code := match c5 with | .cond _ x _ => x | _ => .skip
noncomputable def c7 : Code := match c6 with | .seq x _ => x | _ => .skip
noncomputable def c8 : Code := match c6 with | .seq _ x => x | _ => .skip
noncomputable def c9 : Code := match c5 with | .cond _ _ x => x | _ => .skip
noncomputable def c10 : Code := match c2 with | .seq _ x => x | _ => .skip
noncomputable def c11 : Code := match c10 with | .seq x _ => x | _ => .skip
noncomputable def c12 : Code := match c10 with | .seq _ x => x | _ => .skip
noncomputable def c13 : Code := match c12 with | .seq x _ => x | _ => .skip
noncomputable def c14 : Code := match c12 with | .seq _ x => x | _ => .skip
theorem e0 : c0 = .seq c1 c2 := by kernel_rfl
noncomputable def r1 : Array Oper := match c1 with | .region _ x _ => x | _ => #[]
theorem e1 : c1 = .region 0 r1 false := by kernel_rfl
theorem e2 : c2 = .seq c3 c10 := by kernel_rfl
theorem e3 : c3 = .seq c4 c5 := by kernel_rfl
noncomputable def r4 : Array Oper := match c4 with | .region _ x _ => x | _ => #[]
theorem e4 : c4 = .region 1 r4 false := by kernel_rfl
theorem e5 : c5 = .cond (.tmp 9) c6 c9 := by kernel_rfl
theorem e6 : c6 = .seq c7 c8 := by kernel_rfl
noncomputable def r7 : Array Oper := match c7 with | .region _ x _ => x | _ => #[]
theorem e7 : c7 = .region 2 r7 false := by kernel_rfl
theorem e8 : c8 = .ret := by kernel_rfl
theorem e9 : c9 = .skip := by kernel_rfl
theorem e10 : c10 = .seq c11 c12 := by kernel_rfl
noncomputable def r11 : Array Oper := match c11 with | .region _ x _ => x | _ => #[]
theorem e11 : c11 = .region 3 r11 false := by kernel_rfl
theorem e12 : c12 = .seq c13 c14 := by kernel_rfl
noncomputable def r13 : Array Oper := match c13 with | .region _ x _ => x | _ => #[]
theorem e13 : c13 = .region 4 r13 false := by kernel_rfl
theorem e14 : c14 = .ret := by kernel_rfl
theorem body : Try.f43.body = some c0 := by kernel_rfl
section
variable {base : Nat} {W0 : World} {β0 : Bt}
def f (x0 : (Option HA)) (x1 : Int) (S : HS) : Option ((Int × Bool) × HS) :=
  (if (Option.isNone x0) = true then
  some ((0, false), S) else
  (Option.bind (x0) fun p2 =>
  (Option.bind (HS.ldM S (HA.fld p2 1)) fun p3 =>
  (Option.bind (HS.look S p3 (.int .i64 x1)) fun p4 =>
  (Option.bind (dI .i64 (Option.getD p4 (.int .i64 0))) fun p5 =>
  some ((p5, (Option.isSome p4)), S))))))
theorem snd {x0 : (Option HA)} {x1 : Int} {S : HS}  {p : (Int × Bool) × HS} (h : f x0 x1 S = some p) : HCall Try.prog base W0 β0 43 [(.ptr x0), (.int .i64 x1)] S (fun v S1 => v = (.tup [(.int .i64 p.1.1), (.bool p.1.2)]) ∧ S1 = p.2) := by
  unfold f at h
  refine HCall.of_run at_.at_ body ?_
  show HRun Try.prog base W0 β0 43 none [.code c0] ⟨[(.ptr x0), (.int .i64 x1), .tup [], .tup [], .tup [], .tup [], .tup [], .tup [], .tup [], .tup [], .tup [], .tup [], .tup [], .tup [], .tup [], .tup [], .tup [], .tup [], .tup [], .tup [], .tup []], []⟩ S _
  refine q_seq e0 ?_
  refine q_region e1 rfl ?_
  refine q_op (dst := some 4) rfl (fun _ ho => ok_assign ho (.int _ _)) ?_
  refine q_op (dst := some 5) rfl (fun _ ho => ok_assign ho (.bool _)) ?_
  refine hr_region_end ?_
  try dsimp only [HAct.put, List.set_cons_zero, List.set_cons_succ]
  refine q_seq e2 ?_
  refine q_seq e3 ?_
  refine q_region e4 rfl ?_
  refine q_op (dst := some 8) rfl (fun _ ho => ok_move ho (.tmp rfl)) ?_
  refine q_op (dst := some 9) rfl (fun _ ho => ok_nil_ptr ho tu49 (.tmp rfl) (.inl ⟨rfl, rfl⟩)) ?_
  refine hr_region_end ?_
  try dsimp only [HAct.put, List.set_cons_zero, List.set_cons_succ]
  rcases ifc h with ⟨hc1, h⟩ | ⟨hc1, h⟩
  · refine q_cond_t e5 (.tmp rfl) hc1 ?_
    refine q_seq e6 ?_
    refine q_region e7 rfl ?_
    refine q_op (dst := some 4) rfl (fun _ ho => ok_assign ho (.int _ _)) ?_
    refine q_op (dst := some 5) rfl (fun _ ho => ok_assign ho (.bool _)) ?_
    refine hr_region_end ?_
    try dsimp only [HAct.put, List.set_cons_zero, List.set_cons_succ]
    cases h
    exact q_ret e8 at_.at_ rfl (res2 rfl rfl rfl) ⟨rfl, rfl⟩
  · refine q_cond_f e5 (.tmp rfl) (bfalse hc1) ?_
    refine q_skipc e9 ?_
    refine q_seq e10 ?_
    refine q_region e11 rfl ?_
    refine q_op (dst := some 11) rfl (fun _ ho => ok_move ho (.tmp rfl)) ?_
    obtain ⟨p2, hp2, h⟩ := bindo h
    refine q_op (dst := some 12) rfl (fun _ ho => ok_nilCheck_p ho (.tmp rfl) hp2) ?_
    refine q_op (dst := some 13) rfl (fun _ ho => ok_fieldAddr_s ho fi74_1 (by decide) (.tmp rfl) rfl) ?_
    obtain ⟨p3, hp3, h⟩ := bindo h
    refine q_op (dst := some 14) rfl (fun _ ho => ok_load_s ho sc71 (.tmp rfl) rfl (ldM_out hp3)) ?_
    try dsimp only [HAct.put, List.set_cons_zero, List.set_cons_succ]
    refine q_op (dst := some 15) rfl (fun _ ho => ok_move ho (.tmp rfl)) ?_
    obtain ⟨p4, hp4, h⟩ := bindo h
    obtain ⟨p5, hp5, h⟩ := bindo h
    refine q_op (dst := some 16) rfl (fun _ ho => ok_lookup_ok ho tu71 zi3 (fun β => .int _ _) (keyInt tu3) (.tmp rfl) (.tmp rfl) hp4 (dI_out hp5)) ?_
    refine q_op (dst := some 10) rfl (fun _ ho => ok_move ho (.tmp rfl)) ?_
    refine q_op (dst := some 17) rfl (fun _ ho => ok_extract ho (.tmp rfl) rfl) ?_
    try dsimp only [HAct.put, List.set_cons_zero, List.set_cons_succ]
    refine q_op (dst := some 18) rfl (fun _ ho => ok_extract ho (.tmp rfl) rfl) ?_
    refine q_op (dst := some 6) rfl (fun _ ho => ok_assign ho (.tmp rfl)) ?_
    refine q_op (dst := some 7) rfl (fun _ ho => ok_assign ho (.tmp rfl)) ?_
    refine hr_region_end ?_
    try dsimp only [HAct.put, List.set_cons_zero, List.set_cons_succ]
    refine q_seq e12 ?_
    refine q_region e13 rfl ?_
    refine q_op (dst := some 19) rfl (fun _ ho => ok_move ho (.tmp rfl)) ?_
    refine q_op (dst := some 20) rfl (fun _ ho => ok_move ho (.tmp rfl)) ?_
    refine q_op (dst := some 4) rfl (fun _ ho => ok_assign ho (.tmp rfl)) ?_
    refine q_op (dst := some 5) rfl (fun _ ho => ok_assign ho (.tmp rfl)) ?_
    refine hr_region_end ?_
    try dsimp only [HAct.put, List.set_cons_zero, List.set_cons_succ]
    cases h
    exact q_ret e14 at_.at_ rfl (res2 rfl rfl rfl) ⟨rfl, rfl⟩
end
end timer_Table_int_At
namespace slices_BinarySearchFunc_timer_item_int_timer_item_int_timer_item_int
abbrev id : Nat := 32
theorem at_ : FnAt Try.prog 32 Try.f32 := ⟨Try.func32, by kernel_rfl⟩
noncomputable def c0 : Code := (Try.f32.body).getD .skip
noncomputable def c1 : Code := match c0 with | .seq x _ => x | _ => .skip
noncomputable def c2 : Code := match c0 with | .seq _ x => x | _ => .skip
noncomputable def c3 : Code := match c2 with | .seq x _ => x | _ => .skip
noncomputable def c4 : Code := match c2 with | .seq _ x => x | _ => .skip
noncomputable def c5 : Code := match c4 with | .seq x _ => x | _ => .skip
noncomputable def c6 : Code := match c4 with | .seq _ x => x | _ => .skip
noncomputable def c7 : Code := match c6 with | .seq x _ => x | _ => .skip
noncomputable def c8 : Code := match c7 with | .block _ x => x | _ => .skip
noncomputable def c9 : Code := match c8 with | .loop x => x | _ => .skip
noncomputable def c10 : Code := match c9 with | .seq x _ => x | _ => .skip
noncomputable def c11 : Code := match c10 with | .seq x _ => x | _ => .skip
noncomputable def c12 : Code := match c10 with | .seq _ x => x | _ => .skip
noncomputable def c13 : Code := match c12 with | .cond _ x _ => x | _ => .skip
noncomputable def c14 : Code := match c12 with | .cond _ _ x => x | _ => .skip
noncomputable def c15 : Code := match c9 with | .seq _ x => x | _ => .skip
noncomputable def c16 : Code := match c15 with | .block _ x => x | _ => .skip
noncomputable def c17 : Code := match c16 with | .seq x _ => x | _ => .skip
noncomputable def c18 : Code := match c16 with | .seq _ x => x | _ => .skip
noncomputable def c19 : Code := match c18 with | .seq x _ => x | _ => .skip
noncomputable def c20 : Code := match c18 with | .seq _ x => x | _ => .skip
noncomputable def c21 : Code := match c20 with | .cond _ x _ => x | _ => .skip
noncomputable def c22 : Code := match c20 with | .cond _ _ x => x | _ => .skip
noncomputable def c23 : Code := match c6 with | .seq _ x => x | _ => .skip
noncomputable def c24 : Code := match c23 with | .seq x _ => x | _ => .skip
noncomputable def c25 : Code := match c23 with | .seq _ x => x | _ => .skip
theorem e0 : c0 = .seq c1 c2 := by kernel_rfl
noncomputable def r1 : Array Oper := match c1 with | .region _ x _ => x | _ => #[]
theorem e1 : c1 = .region 0 r1 false := by kernel_rfl
theorem e2 : c2 = .seq c3 c4 := by kernel_rfl
noncomputable def r3 : Array Oper := match c3 with | .region _ x _ => x | _ => #[]
theorem e3 : c3 = .region 1 r3 false := by kernel_rfl
theorem e4 : c4 = .seq c5 c6 := by kernel_rfl
noncomputable def r5 : Array Oper := match c5 with | .region _ x _ => x | _ => #[]
theorem e5 : c5 = .region 2 r5 false := by kernel_rfl
theorem e6 : c6 = .seq c7 c23 := by kernel_rfl
theorem e7 : c7 = .block 0 c8 := by kernel_rfl
theorem e8 : c8 = .loop c9 := by kernel_rfl
theorem e9 : c9 = .seq c10 c15 := by kernel_rfl
theorem e10 : c10 = .seq c11 c12 := by kernel_rfl
noncomputable def r11 : Array Oper := match c11 with | .region _ x _ => x | _ => #[]
theorem e11 : c11 = .region 3 r11 false := by kernel_rfl
theorem e12 : c12 = .cond (.tmp 17) c13 c14 := by kernel_rfl
theorem e13 : c13 = .skip := by kernel_rfl
theorem e14 : c14 = .exit 0 := by kernel_rfl
theorem e15 : c15 = .block 1 c16 := by kernel_rfl
theorem e16 : c16 = .seq c17 c18 := by kernel_rfl
noncomputable def r17 : Array Oper := match c17 with | .region _ x _ => x | _ => #[]
theorem e17 : c17 = .region 4 r17 false := by kernel_rfl
theorem e18 : c18 = .seq c19 c20 := by kernel_rfl
noncomputable def r19 : Array Oper := match c19 with | .region _ x _ => x | _ => #[]
theorem e19 : c19 = .region 5 r19 true := by kernel_rfl
theorem e20 : c20 = .cond (.tmp 31) c21 c22 := by kernel_rfl
noncomputable def r21 : Array Oper := match c21 with | .region _ x _ => x | _ => #[]
theorem e21 : c21 = .region 6 r21 false := by kernel_rfl
noncomputable def r22 : Array Oper := match c22 with | .region _ x _ => x | _ => #[]
theorem e22 : c22 = .region 7 r22 false := by kernel_rfl
theorem e23 : c23 = .seq c24 c25 := by kernel_rfl
noncomputable def r24 : Array Oper := match c24 with | .region _ x _ => x | _ => #[]
theorem e24 : c24 = .region 8 r24 true := by kernel_rfl
theorem e25 : c25 = .ret := by kernel_rfl
theorem body : Try.f32.body = some c0 := by kernel_rfl
section
variable {base : Nat} {W0 : World} {β0 : Bt}
def L0 (D : Dp) (H : Hd) (k : Nat) : Nat → Sl → HV → (Option HA) → Int → Int → Int → HS → Option ((Int × Bool) × HS)
  | 0, _, _, _, _, _, _, _ => none
  | n + 1, y0, y2, y4, y8, y9, y10, S =>
    (if y9 < y10 then
    (Option.bind (HS.idx S y0 (w64 (Int.fdiv (IntKind.wrap .u64 (w64 (y9 + y10))) (2 ^ (min (Int.toNat 1) (IntKind.bits .u64))))) 2) fun p3 =>
    (Option.bind (HS.ldI S .i64 (HA.fld p3 0)) fun p4 =>
    (Option.bind (HS.ldI S .i64 (HA.fld p3 1)) fun p5 =>
    (Option.bind (y4) fun p6 =>
    (Option.bind (HS.ldI S .i64 (HA.fld p6 0)) fun p7 =>
    (Option.bind (HS.ldI S .i64 (HA.fld p6 1)) fun p8 =>
    (Option.bind (D H y2 [(.agg [(.int .i64 p4), (.int .i64 p5)]), (.agg [(.int .i64 p7), (.int .i64 p8)])] S) fun p9 =>
    (Option.bind (dI .i64 p9.1) fun p10 =>
    (if p10 < 0 then
    (L0 D H k n) y0 y2 y4 y8 (w64 ((w64 (Int.fdiv (IntKind.wrap .u64 (w64 (y9 + y10))) (2 ^ (min (Int.toNat 1) (IntKind.bits .u64))))) + 1)) y10 p9.2 else
    (L0 D H k n) y0 y2 y4 y8 y9 (w64 (Int.fdiv (IntKind.wrap .u64 (w64 (y9 + y10))) (2 ^ (min (Int.toNat 1) (IntKind.bits .u64))))) p9.2))))))))) else
    (if y9 < y8 then
    (Option.bind (HS.idx S y0 y9 2) fun p14 =>
    (Option.bind (HS.ldI S .i64 (HA.fld p14 0)) fun p15 =>
    (Option.bind (HS.ldI S .i64 (HA.fld p14 1)) fun p16 =>
    (Option.bind (y4) fun p17 =>
    (Option.bind (HS.ldI S .i64 (HA.fld p17 0)) fun p18 =>
    (Option.bind (HS.ldI S .i64 (HA.fld p17 1)) fun p19 =>
    (Option.bind (D H y2 [(.agg [(.int .i64 p15), (.int .i64 p16)]), (.agg [(.int .i64 p18), (.int .i64 p19)])] S) fun p20 =>
    (Option.bind (dI .i64 p20.1) fun p21 =>
    some ((y9, (decide (p21 = 0))), p20.2))))))))) else
    some ((y9, false), S)))
theorem L0_snd {D : Dp} {H : Hd} {k : Nat} (hD : DSound Try.prog base W0 D) (hH : HSound Try.prog base W0 β0 H)  : ∀ {n : Nat} ⦃y0 : Sl⦄ ⦃y2 : HV⦄ ⦃y4 : (Option HA)⦄ ⦃y8 : Int⦄ ⦃y9 : Int⦄ ⦃y10 : Int⦄ ⦃S : HS⦄ ⦃p : (Int × Bool) × HS⦄ ⦃g1 g3 g5 g6 g7 g11 g12 g13 g14 g15 g16 g17 g18 g19 g20 g21 g22 g23 g24 g25 g26 g27 g28 g29 g30 g31 g32 g33 g34 g35 g36 g37 g38 g39 g40 g41 g42 g43 g44 g45 g46 g47 g48 : HV⦄, L0 D H k n y0 y2 y4 y8 y9 y10 S = some p → HRun Try.prog base W0 β0 32 none [.inLoop c9, .inBlock 0, .code c23] ⟨[(Sl.hv y0), g1, y2, g3, (.ptr y4), g5, g6, g7, (.int .i64 y8), (.int .i64 y9), (.int .i64 y10), g11, g12, g13, g14, g15, g16, g17, g18, g19, g20, g21, g22, g23, g24, g25, g26, g27, g28, g29, g30, g31, g32, g33, g34, g35, g36, g37, g38, g39, g40, g41, g42, g43, g44, g45, g46, g47, g48], []⟩ S (fun v S1 => v = (.tup [(.int .i64 p.1.1), (.bool p.1.2)]) ∧ S1 = p.2) := by
  intro n
  induction n with
  | zero => intro _ _ _ _ _ _ _ _ _ _ _ _ _ _ _ _ _ _ _ _ _ _ _ _ _ _ _ _ _ _ _ _ _ _ _ _ _ _ _ _ _ _ _ _ _ _ _ _ _ _ _ h; cases h
  | succ n ih =>
    intro y0 y2 y4 y8 y9 y10 S p g1 g3 g5 g6 g7 g11 g12 g13 g14 g15 g16 g17 g18 g19 g20 g21 g22 g23 g24 g25 g26 g27 g28 g29 g30 g31 g32 g33 g34 g35 g36 g37 g38 g39 g40 g41 g42 g43 g44 g45 g46 g47 g48 h
    simp only [L0] at h
    refine hr_inLoop ?_
    refine q_seq e9 ?_
    refine q_seq e10 ?_
    refine q_region e11 rfl ?_
    refine q_op (dst := some 15) rfl (fun _ ho => ok_move ho (.tmp rfl)) ?_
    refine q_op (dst := some 16) rfl (fun _ ho => ok_move ho (.tmp rfl)) ?_
    refine q_op (dst := some 17) rfl (fun _ ho => ok_ibin ho (.tmp rfl) (.tmp rfl) rfl) ?_
    refine hr_region_end ?_
    try dsimp only [HAct.put, List.set_cons_zero, List.set_cons_succ]
    rcases ifc h with ⟨hc2, h⟩ | ⟨hc2, h⟩
    · refine q_cond_t e12 (.tmp rfl) (decide_eq_true hc2) ?_
      refine q_skipc e13 ?_
      refine q_block e15 ?_
      refine q_seq e16 ?_
      refine q_region e17 rfl ?_
      refine q_op (dst := some 18) rfl (fun _ ho => ok_move ho (.tmp rfl)) ?_
      refine q_op (dst := some 19) rfl (fun _ ho => ok_move ho (.tmp rfl)) ?_
      refine q_op (dst := some 20) rfl (fun _ ho => ok_ibin ho (.tmp rfl) (.tmp rfl) rfl) ?_
      refine q_op (dst := some 21) rfl (fun _ ho => ok_conv_int ho tu3 tu84 (.tmp rfl)) ?_
      try dsimp only [HAct.put, List.set_cons_zero, List.set_cons_succ]
      refine q_op (dst := some 22) rfl (fun _ ho => ok_shr ho (.tmp rfl) (.int _ _) (by decide)) ?_
      refine q_op (dst := some 23) rfl (fun _ ho => ok_conv_int ho tu84 tu3 (.tmp rfl)) ?_
      refine q_op (dst := some 11) rfl (fun _ ho => ok_assign ho (.tmp rfl)) ?_
      refine hr_region_end ?_
      try dsimp only [HAct.put, List.set_cons_zero, List.set_cons_succ]
      refine q_seq e18 ?_
      refine x_start (cls := [0, 0, 0, 1, 1, 1, 2, 0]) (rk := [0, 1, 2, 3, 4, 5, 6, 7]) e19 (by kernel_rfl) ?_
      refine x_go (f_op (dst := some 24) (ts := [2]) rfl (by intro _ _ h; cases h) (by kernel_rfl) (fun _ _ ho => ok_move ho (.tmp rfl))) rfl ?_
      refine x_go (f_op (dst := some 25) (ts := [0]) rfl (by intro _ _ h; cases h) (by kernel_rfl) (fun _ _ ho => ok_move ho (.tmp rfl))) rfl ?_
      refine x_go (f_op (dst := some 26) (ts := [11]) rfl (by intro _ _ h; cases h) (by kernel_rfl) (fun _ _ ho => ok_move ho (.tmp rfl))) rfl ?_
      obtain ⟨p3, hp3, h⟩ := bindo h
      refine x_go (r_op (dst := some 27) (ts := [25, 26]) rfl (by intro _ _ h; cases h) (by kernel_rfl) (fun _ ho => ok_indexAddr (s := y0) ho tu72 sz78 (.tmp rfl) (.tmp rfl) hp3)) rfl ?_
      try dsimp only [HAct.put, List.set_cons_zero, List.set_cons_succ]
      obtain ⟨p4, hp4, h⟩ := bindo h
      obtain ⟨p5, hp5, h⟩ := bindo h
      refine x_go (r_op (dst := some 28) (ts := [27]) rfl (by intro _ _ h; cases h) (by kernel_rfl) (fun _ ho => ok_load_a (vs := [(.int .i64 p4), (.int .i64 p5)]) ho ia78 (.tmp rfl) rfl ⟨ldI_out hp4, ldI_out hp5, trivial⟩ (by simp))) rfl ?_
      obtain ⟨p6, hp6, h⟩ := bindo h
      obtain ⟨p7, hp7, h⟩ := bindo h
      obtain ⟨p8, hp8, h⟩ := bindo h
      refine x_go (r_op (dst := some 29) (ts := [4]) rfl (by intro _ _ h; cases h) (by kernel_rfl) (fun _ ho => ok_load_a (vs := [(.int .i64 p7), (.int .i64 p8)]) ho ia78 (.tmp rfl) hp6 ⟨ldI_out hp7, ldI_out hp8, trivial⟩ (by simp))) rfl ?_
      obtain ⟨p9, hp9, h⟩ := bindo h
      obtain ⟨p10, hp10, h⟩ := bindo h
      have hi12 := (hD _ _ hH _ _ _ _ _ hp9)
      rw [dI_out hp10] at hi12
      refine x_go (e_call (dst := some 30) (ts := [24, 28, 29]) rfl (by kernel_rfl) (.tmp rfl) (.cons (.tmp rfl) (.cons (.tmp rfl) Evs.nil)) hi12) rfl ?_
      refine x_go (f_op (dst := some 31) (ts := [30]) rfl (by intro _ _ h; cases h) (by kernel_rfl) (fun _ _ ho => ok_ibin ho (.tmp rfl) (.int _ _) rfl)) rfl ?_
      refine x_rest rfl ?_
      refine hr_region_end ?_
      try dsimp only [HAct.put, List.set_cons_zero, List.set_cons_succ]
      rcases ifc h with ⟨hc11, h⟩ | ⟨hc11, h⟩
      · refine q_cond_t e20 (.tmp rfl) (decide_eq_true hc11) ?_
        refine q_region e21 rfl ?_
        refine q_op (dst := some 32) rfl (fun _ ho => ok_move ho (.tmp rfl)) ?_
        refine q_op (dst := some 33) rfl (fun _ ho => ok_ibin ho (.tmp rfl) (.int _ _) rfl) ?_
        refine q_op (dst := some 9) rfl (fun _ ho => ok_assign ho (.tmp rfl)) ?_
        refine hr_region_end ?_
        try dsimp only [HAct.put, List.set_cons_zero, List.set_cons_succ]
        refine hr_inBlock ?_
        try dsimp only [HAct.put, List.set_cons_zero, List.set_cons_succ]
        exact ih h
      · refine q_cond_f e20 (.tmp rfl) (decide_eq_false hc11) ?_
        refine q_region e22 rfl ?_
        refine q_op (dst := some 34) rfl (fun _ ho => ok_move ho (.tmp rfl)) ?_
        refine q_op (dst := some 10) rfl (fun _ ho => ok_assign ho (.tmp rfl)) ?_
        refine hr_region_end ?_
        try dsimp only [HAct.put, List.set_cons_zero, List.set_cons_succ]
        refine hr_inBlock ?_
        try dsimp only [HAct.put, List.set_cons_zero, List.set_cons_succ]
        exact ih h
    · refine q_cond_f e12 (.tmp rfl) (decide_eq_false hc2) ?_
      refine q_exit e14 rfl ?_
      refine q_seq e23 ?_
      refine x_start (cls := [0, 0, 0, 0, 0, 0, 0, 0, 1, 1, 1, 2, 0, 0, 0, 0]) (rk := [0, 1, 2, 3, 4, 5, 6, 7, 8, 9, 10, 11, 13, 14, 12, 15]) e24 (by kernel_rfl) ?_
      refine x_go (f_op (dst := some 35) (ts := [9]) rfl (by intro _ _ h; cases h) (by kernel_rfl) (fun _ _ ho => ok_move ho (.tmp rfl))) rfl ?_
      refine x_go (f_op (dst := some 36) (ts := [9]) rfl (by intro _ _ h; cases h) (by kernel_rfl) (fun _ _ ho => ok_move ho (.tmp rfl))) rfl ?_
      refine x_go (f_op (dst := some 37) (ts := [8]) rfl (by intro _ _ h; cases h) (by kernel_rfl) (fun _ _ ho => ok_move ho (.tmp rfl))) rfl ?_
      refine x_go (f_op (dst := some 38) (ts := [36, 37]) rfl (by intro _ _ h; cases h) (by kernel_rfl) (fun _ _ ho => ok_ibin ho (.tmp rfl) (.tmp rfl) rfl)) rfl ?_
      try dsimp only [HAct.put, List.set_cons_zero, List.set_cons_succ]
      refine x_go (f_op (dst := some 39) (ts := [38]) rfl (by intro _ _ h; cases h) (by kernel_rfl) (fun _ _ ho => ok_move ho (.tmp rfl))) rfl ?_
      rcases ifc h with ⟨hc13, h⟩ | ⟨hc13, h⟩
      · refine x_go (f_op_g (dst := some 40) (t := 39) (ts := [2, 39]) rfl (by intro _ _ h; cases h) (by kernel_rfl) rfl rfl (decide_eq_true hc13) (fun _ _ ho => ok_move ho (.tmp rfl))) rfl ?_
        refine x_go (f_op_g (dst := some 41) (t := 39) (ts := [0, 39]) rfl (by intro _ _ h; cases h) (by kernel_rfl) rfl rfl (decide_eq_true hc13) (fun _ _ ho => ok_move ho (.tmp rfl))) rfl ?_
        refine x_go (f_op_g (dst := some 42) (t := 39) (ts := [9, 39]) rfl (by intro _ _ h; cases h) (by kernel_rfl) rfl rfl (decide_eq_true hc13) (fun _ _ ho => ok_move ho (.tmp rfl))) rfl ?_
        try dsimp only [HAct.put, List.set_cons_zero, List.set_cons_succ]
        obtain ⟨p14, hp14, h⟩ := bindo h
        refine x_go (r_op_g (dst := some 43) (t := 39) (ts := [41, 42, 39]) rfl (by intro _ _ h; cases h) (by kernel_rfl) rfl rfl (decide_eq_true hc13) (fun _ ho => ok_indexAddr (s := y0) ho tu72 sz78 (.tmp rfl) (.tmp rfl) hp14)) rfl ?_
        obtain ⟨p15, hp15, h⟩ := bindo h
        obtain ⟨p16, hp16, h⟩ := bindo h
        refine x_go (r_op_g (dst := some 44) (t := 39) (ts := [43, 39]) rfl (by intro _ _ h; cases h) (by kernel_rfl) rfl rfl (decide_eq_true hc13) (fun _ ho => ok_load_a (vs := [(.int .i64 p15), (.int .i64 p16)]) ho ia78 (.tmp rfl) rfl ⟨ldI_out hp15, ldI_out hp16, trivial⟩ (by simp))) rfl ?_
        obtain ⟨p17, hp17, h⟩ := bindo h
        obtain ⟨p18, hp18, h⟩ := bindo h
        obtain ⟨p19, hp19, h⟩ := bindo h
        refine x_go (r_op_g (dst := some 45) (t := 39) (ts := [4, 39]) rfl (by intro _ _ h; cases h) (by kernel_rfl) rfl rfl (decide_eq_true hc13) (fun _ ho => ok_load_a (vs := [(.int .i64 p18), (.int .i64 p19)]) ho ia78 (.tmp rfl) hp17 ⟨ldI_out hp18, ldI_out hp19, trivial⟩ (by simp))) rfl ?_
        obtain ⟨p20, hp20, h⟩ := bindo h
        obtain ⟨p21, hp21, h⟩ := bindo h
        have hi22 := (hD _ _ hH _ _ _ _ _ hp20)
        rw [dI_out hp21] at hi22
        refine x_go (e_call_g (dst := some 46) (t := 39) (ts := [40, 44, 45, 39]) rfl (by kernel_rfl) rfl rfl (decide_eq_true hc13) (.tmp rfl) (.cons (.tmp rfl) (.cons (.tmp rfl) Evs.nil)) hi22) rfl ?_
        try dsimp only [HAct.put, List.set_cons_zero, List.set_cons_succ]
        refine x_go (f_op_g (dst := some 47) (t := 39) (ts := [46, 39]) rfl (by intro _ _ h; cases h) (by kernel_rfl) rfl rfl (decide_eq_true hc13) (fun _ _ ho => ok_ibin ho (.tmp rfl) (.int _ _) rfl)) rfl ?_
        refine x_go (f_op (dst := some 48) (ts := [39, 47]) rfl (by intro _ _ h; cases h) (by kernel_rfl) (fun _ _ ho => ok_pick_tt ho (.tmp rfl) (decide_eq_true hc13) (.tmp rfl))) rfl ?_
        refine x_go (f_op (dst := some 6) (ts := [35]) rfl (by intro _ _ h; cases h) (by kernel_rfl) (fun _ _ ho => ok_assign ho (.tmp rfl))) rfl ?_
        refine x_go (f_op (dst := some 7) (ts := [48]) rfl (by intro _ _ h; cases h) (by kernel_rfl) (fun _ _ ho => ok_assign ho (.tmp rfl))) rfl ?_
        refine x_rest rfl ?_
        refine hr_region_end ?_
        try dsimp only [HAct.put, List.set_cons_zero, List.set_cons_succ]
        cases h
        exact q_ret e25 at_.at_ rfl (res2 rfl rfl rfl) ⟨rfl, rfl⟩
      · refine x_go (f_skip (dst := some 40) (t := 39) (ts := [2, 39]) rfl (by kernel_rfl) rfl rfl (decide_eq_false hc13)) rfl ?_
        refine x_go (f_skip (dst := some 41) (t := 39) (ts := [0, 39]) rfl (by kernel_rfl) rfl rfl (decide_eq_false hc13)) rfl ?_
        refine x_go (f_skip (dst := some 42) (t := 39) (ts := [9, 39]) rfl (by kernel_rfl) rfl rfl (decide_eq_false hc13)) rfl ?_
        try dsimp only [HAct.put, List.set_cons_zero, List.set_cons_succ]
        refine x_go (r_skip (dst := some 43) (t := 39) (ts := [41, 42, 39]) rfl (by kernel_rfl) rfl rfl (decide_eq_false hc13)) rfl ?_
        refine x_go (r_skip (dst := some 44) (t := 39) (ts := [43, 39]) rfl (by kernel_rfl) rfl rfl (decide_eq_false hc13)) rfl ?_
        refine x_go (r_skip (dst := some 45) (t := 39) (ts := [4, 39]) rfl (by kernel_rfl) rfl rfl (decide_eq_false hc13)) rfl ?_
        refine x_go (e_skip (dst := some 46) (t := 39) (ts := [40, 44, 45, 39]) rfl (by kernel_rfl) rfl rfl (decide_eq_false hc13)) rfl ?_
        try dsimp only [HAct.put, List.set_cons_zero, List.set_cons_succ]
        refine x_go (f_skip (dst := some 47) (t := 39) (ts := [46, 39]) rfl (by kernel_rfl) rfl rfl (decide_eq_false hc13)) rfl ?_
        refine x_go (f_op (dst := some 48) (ts := [39, 47]) rfl (by intro _ _ h; cases h) (by kernel_rfl) (fun _ _ ho => ok_pick_ff ho (.tmp rfl) (decide_eq_false hc13) (.bool _))) rfl ?_
        refine x_go (f_op (dst := some 6) (ts := [35]) rfl (by intro _ _ h; cases h) (by kernel_rfl) (fun _ _ ho => ok_assign ho (.tmp rfl))) rfl ?_
        refine x_go (f_op (dst := some 7) (ts := [48]) rfl (by intro _ _ h; cases h) (by kernel_rfl) (fun _ _ ho => ok_assign ho (.tmp rfl))) rfl ?_
        refine x_rest rfl ?_
        refine hr_region_end ?_
        try dsimp only [HAct.put, List.set_cons_zero, List.set_cons_succ]
        cases h
        exact q_ret e25 at_.at_ rfl (res2 rfl rfl rfl) ⟨rfl, rfl⟩
def f (D : Dp) (H : Hd) (k : Nat) (x0 : Sl) (x1_0 : Int) (x1_1 : Int) (x2 : HV) (S : HS) : Option ((Int × Bool) × HS) :=
  (letv (HS.new S (.cells 2 [[(.int .i64 x1_0), (.int .i64 x1_1)]] true)) fun p1 =>
  L0 D H k k x0 x2 (some (HA.cell0 S.next)) (Sl.len x0 : Int) 0 (Sl.len x0 : Int) p1)
theorem snd {D : Dp} {H : Hd} {k : Nat} {x0 : Sl} {x1_0 : Int} {x1_1 : Int} {x2 : HV} {S : HS} (hD : DSound Try.prog base W0 D) (hH : HSound Try.prog base W0 β0 H)  {p : (Int × Bool) × HS} (h : f D H k x0 x1_0 x1_1 x2 S = some p) : HCall Try.prog base W0 β0 32 [(Sl.hv x0), (.agg [(.int .i64 x1_0), (.int .i64 x1_1)]), x2] S (fun v S1 => v = (.tup [(.int .i64 p.1.1), (.bool p.1.2)]) ∧ S1 = p.2) := by
  unfold f at h
  refine HCall.of_run at_.at_ body ?_
  show HRun Try.prog base W0 β0 32 none [.code c0] ⟨[(Sl.hv x0), (.agg [(.int .i64 x1_0), (.int .i64 x1_1)]), x2, .tup [], .tup [], .tup [], .tup [], .tup [], .tup [], .tup [], .tup [], .tup [], .tup [], .tup [], .tup [], .tup [], .tup [], .tup [], .tup [], .tup [], .tup [], .tup [], .tup [], .tup [], .tup [], .tup [], .tup [], .tup [], .tup [], .tup [], .tup [], .tup [], .tup [], .tup [], .tup [], .tup [], .tup [], .tup [], .tup [], .tup [], .tup [], .tup [], .tup [], .tup [], .tup [], .tup [], .tup [], .tup [], .tup []], []⟩ S _
  refine q_seq e0 ?_
  refine q_region e1 rfl ?_
  obtain ⟨p1, hp1, h⟩ := leto h
  refine q_op (dst := some 4) rfl (fun _ ho => ok_box_e ho (.tmp rfl) (Nat.zero_lt_succ _) rfl hp1) ?_
  refine q_op (dst := some 6) rfl (fun _ ho => ok_assign ho (.int _ _)) ?_
  refine q_op (dst := some 7) rfl (fun _ ho => ok_assign ho (.bool _)) ?_
  refine hr_region_end ?_
  try dsimp only [HAct.put, List.set_cons_zero, List.set_cons_succ]
  refine q_seq e2 ?_
  refine q_region e3 rfl ?_
  refine q_op (dst := some 12) rfl (fun _ ho => ok_move ho (.tmp rfl)) ?_
  refine q_op (dst := some 13) rfl (fun _ ho => ok_len_sl (q := Sl.a x0) (n := Sl.len x0) (z := Sl.cap x0) ho rfl tu72 (.tmp rfl)) ?_
  refine q_op (dst := some 8) rfl (fun _ ho => ok_assign ho (.tmp rfl)) ?_
  refine hr_region_end ?_
  try dsimp only [HAct.put, List.set_cons_zero, List.set_cons_succ]
  refine q_seq e4 ?_
  refine q_region e5 rfl ?_
  refine q_op (dst := some 14) rfl (fun _ ho => ok_move ho (.tmp rfl)) ?_
  refine q_op (dst := some 9) rfl (fun _ ho => ok_assign ho (.int _ _)) ?_
  refine q_op (dst := some 10) rfl (fun _ ho => ok_assign ho (.tmp rfl)) ?_
  refine hr_region_end ?_
  try dsimp only [HAct.put, List.set_cons_zero, List.set_cons_succ]
  refine q_seq e6 ?_
  refine q_block e7 ?_
  refine q_loop e8 ?_
  try dsimp only [HAct.put, List.set_cons_zero, List.set_cons_succ]
  exact L0_snd hD hH h
end
end slices_BinarySearchFunc_timer_item_int_timer_item_int_timer_item_int
namespace timer_compare_int
abbrev id : Nat := 33
theorem at_ : FnAt Try.prog 33 Try.f33 := ⟨Try.func33, by kernel_rfl⟩
noncomputable def c0 : Code := (Try.f33.body).getD .skip
noncomputable def c1 : Code := match c0 with | .seq x _ => x | _ => .skip
noncomputable def c2 : Code := match c0 with | .seq _ x => x | _ => .skip
noncomputable def c3 : Code := match c2 with | .seq x _ => x | _ => .skip
noncomputable def c4 : Code := match c2 with | .seq _ x => x | _ => .skip
theorem e0 : c0 = .seq c1 c2 := by kernel_rfl
noncomputable def r1 : Array Oper := match c1 with | .region _ x _ => x | _ => #[]
theorem e1 : c1 = .region 0 r1 false := by kernel_rfl
theorem e2 : c2 = .seq c3 c4 := by kernel_rfl
noncomputable def r3 : Array Oper := match c3 with | .region _ x _ => x | _ => #[]
theorem e3 : c3 = .region 1 r3 true := by kernel_rfl
theorem e4 : c4 = .ret := by kernel_rfl
theorem body : Try.f33.body = some c0 := by kernel_rfl
section
variable {base : Nat} {W0 : World} {β0 : Bt}
def f (k : Nat) (x0_0 : Int) (x0_1 : Int) (x1_0 : Int) (x1_1 : Int) (S : HS) : Option ((Int) × HS) :=
  (letv (HS.new S (.cells 2 [[(.int .i64 x0_0), (.int .i64 x0_1)]] true)) fun p1 =>
  (letv (HS.new p1 (.cells 2 [[(.int .i64 x1_0), (.int .i64 x1_1)]] true)) fun p2 =>
  (Option.bind (HS.ldI p2 .i64 (HA.fld (HA.cell0 S.next) 1)) fun p3 =>
  (Option.bind (HS.ldI p2 .i64 (HA.fld (HA.cell0 p1.next) 1)) fun p4 =>
  (Option.bind (cmp_Compare_int.f p3 p4) fun p5 =>
  (Option.bind (HS.ldI p2 .i64 (HA.fld (HA.cell0 S.next) 0)) fun p6 =>
  (Option.bind (HS.ldI p2 .i64 (HA.fld (HA.cell0 p1.next) 0)) fun p7 =>
  (Option.bind (cmp_Compare_int.f p6 p7) fun p8 =>
  (letv (HS.lit p2 [[(.int .i64 p5)], [(.int .i64 p8)]] 1) fun p9 =>
  (Option.bind (cmp_Or_int.f k (p9.1) (p9.2)) fun p10 =>
  some (p10.1, p10.2)))))))))))
theorem snd {k : Nat} {x0_0 : Int} {x0_1 : Int} {x1_0 : Int} {x1_1 : Int} {S : HS}  {p : (Int) × HS} (h : f k x0_0 x0_1 x1_0 x1_1 S = some p) : HCall Try.prog base W0 β0 33 [(.agg [(.int .i64 x0_0), (.int .i64 x0_1)]), (.agg [(.int .i64 x1_0), (.int .i64 x1_1)])] S (fun v S1 => v = (.int .i64 p.1) ∧ S1 = p.2) := by
  unfold f at h
  refine HCall.of_run at_.at_ body ?_
  show HRun Try.prog base W0 β0 33 none [.code c0] ⟨[(.agg [(.int .i64 x0_0), (.int .i64 x0_1)]), (.agg [(.int .i64 x1_0), (.int .i64 x1_1)]), .tup [], .tup [], .tup [], .tup [], .tup [], .tup [], .tup [], .tup [], .tup [], .tup [], .tup [], .tup [], .tup [], .tup [], .tup []], []⟩ S _
  refine q_seq e0 ?_
  refine q_region e1 rfl ?_
  obtain ⟨p1, hp1, h⟩ := leto h
  refine q_op (dst := some 2) rfl (fun _ ho => ok_box_e ho (.tmp rfl) (Nat.zero_lt_succ _) rfl hp1) ?_
  obtain ⟨p2, hp2, h⟩ := leto h
  refine q_op (dst := some 3) rfl (fun _ ho => ok_box_e ho (.tmp rfl) (Nat.zero_lt_succ _) rfl hp2) ?_
  refine q_op (dst := some 4) rfl (fun _ ho => ok_assign ho (.int _ _)) ?_
  refine hr_region_end ?_
  try dsimp only [HAct.put, List.set_cons_zero, List.set_cons_succ]
  refine q_seq e2 ?_
  refine x_start (cls := [0, 1, 0, 1, 0, 0, 1, 0, 1, 0, 2, 2, 0]) (rk := [0, 1, 2, 3, 4, 5, 6, 7, 8, 9, 10, 11, 12]) e3 (by kernel_rfl) ?_
  refine x_go (f_op (dst := some 5) (ts := [2]) rfl (by intro _ _ h; cases h) (by kernel_rfl) (fun _ _ ho => ok_fieldAddr_s ho fi78_1 (by decide) (.tmp rfl) rfl)) rfl ?_
  obtain ⟨p3, hp3, h⟩ := bindo h
  refine x_go (r_op (dst := some 6) (ts := [5]) rfl (by intro _ _ h; cases h) (by kernel_rfl) (fun _ ho => ok_load_s ho sc3 (.tmp rfl) rfl (ldI_out hp3))) rfl ?_
  refine x_go (f_op (dst := some 7) (ts := [3]) rfl (by intro _ _ h; cases h) (by kernel_rfl) (fun _ _ ho => ok_fieldAddr_s ho fi78_1 (by decide) (.tmp rfl) rfl)) rfl ?_
  obtain ⟨p4, hp4, h⟩ := bindo h
  refine x_go (r_op (dst := some 8) (ts := [7]) rfl (by intro _ _ h; cases h) (by kernel_rfl) (fun _ ho => ok_load_s ho sc3 (.tmp rfl) rfl (ldI_out hp4))) rfl ?_
  try dsimp only [HAct.put, List.set_cons_zero, List.set_cons_succ]
  obtain ⟨p5, hp5, h⟩ := bindo h
  refine x_go (f_call (dst := some 9) (ts := [6, 8]) rfl (by kernel_rfl) (.func _) (.cons (.tmp rfl) (.cons (.tmp rfl) Evs.nil)) (fun _ => (HInv.static cmp_Compare_int.at_ cmp_Compare_int.body (cmp_Compare_int.snd  hp5)))) rfl ?_
  refine x_go (f_op (dst := some 10) (ts := [2]) rfl (by intro _ _ h; cases h) (by kernel_rfl) (fun _ _ ho => ok_fieldAddr_s ho fi78_0 (by decide) (.tmp rfl) rfl)) rfl ?_
  obtain ⟨p6, hp6, h⟩ := bindo h
  refine x_go (r_op (dst := some 11) (ts := [10]) rfl (by intro _ _ h; cases h) (by kernel_rfl) (fun _ ho => ok_load_s ho sc3 (.tmp rfl) rfl (ldI_out hp6))) rfl ?_
  refine x_go (f_op (dst := some 12) (ts := [3]) rfl (by intro _ _ h; cases h) (by kernel_rfl) (fun _ _ ho => ok_fieldAddr_s ho fi78_0 (by decide) (.tmp rfl) rfl)) rfl ?_
  try dsimp only [HAct.put, List.set_cons_zero, List.set_cons_succ]
  obtain ⟨p7, hp7, h⟩ := bindo h
  refine x_go (r_op (dst := some 13) (ts := [12]) rfl (by intro _ _ h; cases h) (by kernel_rfl) (fun _ ho => ok_load_s ho sc3 (.tmp rfl) rfl (ldI_out hp7))) rfl ?_
  obtain ⟨p8, hp8, h⟩ := bindo h
  refine x_go (f_call (dst := some 14) (ts := [11, 13]) rfl (by kernel_rfl) (.func _) (.cons (.tmp rfl) (.cons (.tmp rfl) Evs.nil)) (fun _ => (HInv.static cmp_Compare_int.at_ cmp_Compare_int.body (cmp_Compare_int.snd  hp8)))) rfl ?_
  obtain ⟨p9, hp9, h⟩ := leto h
  refine x_go (e_op (dst := some 15) (ts := [9, 14]) rfl (by intro _ _ h; cases h) (by kernel_rfl) (fun _ ho => ok_buildSlice_s (xs := [(.tmp 9), (.tmp 14)]) el48 ho rfl rfl (by decide) (.cons (.tmp rfl) (.cons (.tmp rfl) Evs.nil)) rfl rfl hp9)) rfl ?_
  obtain ⟨p10, hp10, h⟩ := bindo h
  refine x_go (e_call (dst := some 16) (ts := [15]) rfl (by kernel_rfl) (.func _) (.cons (.tmp rfl) Evs.nil) (HInv.static cmp_Or_int.at_ cmp_Or_int.body (cmp_Or_int.snd  hp10))) rfl ?_
  try dsimp only [HAct.put, List.set_cons_zero, List.set_cons_succ]
  refine x_go (f_op (dst := some 4) (ts := [16]) rfl (by intro _ _ h; cases h) (by kernel_rfl) (fun _ _ ho => ok_assign ho (.tmp rfl))) rfl ?_
  refine x_rest rfl ?_
  refine hr_region_end ?_
  try dsimp only [HAct.put, List.set_cons_zero, List.set_cons_succ]
  cases h
  exact q_ret e4 at_.at_ rfl (res1 rfl rfl) ⟨rfl, rfl⟩
end
end timer_compare_int
namespace slices_Delete_timer_item_int_timer_item_int
abbrev id : Nat := 44
theorem at_ : FnAt Try.prog 44 Try.f44 := ⟨Try.func44, by kernel_rfl⟩
noncomputable def c0 : Code := (Try.f44.body).getD .skip
noncomputable def c1 : Code := match c0 with | .seq x _ => x | _ => .skip
noncomputable def c2 : Code := match c0 with | .seq _ x => x | _ => .skip
noncomputable def c3 : Code := match c2 with | .seq x _ => x | _ => .skip
noncomputable def c4 : Code := match c2 with | .seq _ x => x | _ => .skip
noncomputable def c5 : Code := match c4 with | .seq x _ => x | _ => .skip
noncomputable def c6 : Code := match c5 with | .seq x _ => x | _ => .skip
noncomputable def c7 : Code := match c5 with | .seq _ x => x | _ => .skip
noncomputable def c8 : Code := match c7 with | .cond _ x _ => x | _ => .skip
noncomputable def c9 : Code := match c8 with | .seq x _ => x | _ => .skip
noncomputable def c10 : Code := match c8 with | .seq _ x => x | _ => .skip
noncomputable def c11 : Code := match c7 with | .cond _ _ x => x | _ => .skip
noncomputable def c12 : Code := match c4 with | .seq _ x => x | _ => .skip
noncomputable def c13 : Code := match c12 with | .seq x _ => x | _ => .skip
noncomputable def c14 : Code := match c12 with | .seq _ x => x | _ => .skip
noncomputable def c15 : Code := match c14 with | .seq x _ => x | _ => .skip
noncomputable def c16 : Code := match c14 with | .seq _ x => x | _ => .skip
noncomputable def c17 : Code := match c16 with | .seq x _ => x | _ => .skip
noncomputable def c18 : Code := match c16 with | .seq _ x => x | _ => .skip
noncomputable def c19 : Code := match c18 with | .seq x _ => x | _ => .skip
noncomputable def c20 : Code := match c18 with | .seq _ x => x | _ => .skip
theorem e0 : c0 = .seq c1 c2 := by kernel_rfl
noncomputable def r1 : Array Oper := match c1 with | .region _ x _ => x | _ => #[]
theorem e1 : c1 = .region 0 r1 false := by kernel_rfl
theorem e2 : c2 = .seq c3 c4 := by kernel_rfl
noncomputable def r3 : Array Oper := match c3 with | .region _ x _ => x | _ => #[]
theorem e3 : c3 = .region 1 r3 false := by kernel_rfl
theorem e4 : c4 = .seq c5 c12 := by kernel_rfl
theorem e5 : c5 = .seq c6 c7 := by kernel_rfl
noncomputable def r6 : Array Oper := match c6 with | .region _ x _ => x | _ => #[]
theorem e6 : c6 = .region 2 r6 false := by kernel_rfl
theorem e7 : c7 = .cond (.tmp 16) c8 c11 := by kernel_rfl
theorem e8 : c8 = .seq c9 c10 := by kernel_rfl
noncomputable def r9 : Array Oper := match c9 with | .region _ x _ => x | _ => #[]
theorem e9 : c9 = .region 3 r9 false := by kernel_rfl
theorem e10 : c10 = .ret := by kernel_rfl
theorem e11 : c11 = .skip := by kernel_rfl
theorem e12 : c12 = .seq c13 c14 := by kernel_rfl
noncomputable def r13 : Array Oper := match c13 with | .region _ x _ => x | _ => #[]
theorem e13 : c13 = .region 4 r13 false := by kernel_rfl
theorem e14 : c14 = .seq c15 c16 := by kernel_rfl
noncomputable def r15 : Array Oper := match c15 with | .region _ x _ => x | _ => #[]
theorem e15 : c15 = .region 5 r15 true := by kernel_rfl
theorem e16 : c16 = .seq c17 c18 := by kernel_rfl
noncomputable def r17 : Array Oper := match c17 with | .region _ x _ => x | _ => #[]
theorem e17 : c17 = .region 6 r17 false := by kernel_rfl
theorem e18 : c18 = .seq c19 c20 := by kernel_rfl
noncomputable def r19 : Array Oper := match c19 with | .region _ x _ => x | _ => #[]
theorem e19 : c19 = .region 7 r19 false := by kernel_rfl
theorem e20 : c20 = .ret := by kernel_rfl
theorem body : Try.f44.body = some c0 := by kernel_rfl
section
variable {base : Nat} {W0 : World} {β0 : Bt}
def f (x0 : Sl) (x1 : Int) (x2 : Int) (S : HS) : Option ((Sl) × HS) :=
  (Option.bind (HS.cut3 S x0 x1 x2 (Sl.len x0 : Int) 2) fun p1 =>
  (if x1 = x2 then
  some (x0, S) else
  (Option.bind (HS.cut S x0 0 x1 2) fun p3 =>
  (Option.bind (HS.cut S x0 x2 (Sl.len x0 : Int) 2) fun p4 =>
  (Option.bind (HS.rows S p4 2) fun p5 =>
  (Option.bind (HS.app S p3 p5 2) fun p6 =>
  (Option.bind (HS.cut (p6.2) (p6.1) (Sl.len (p6.1) : Int) (Sl.len x0 : Int) 2) fun p7 =>
  (Option.bind (HS.over (p6.2) p7 (List.replicate (Sl.len p7) [(.int .i64 0), (.int .i64 0)]) 2) fun p8 =>
  some ((p6.1), p8)))))))))
theorem snd {x0 : Sl} {x1 : Int} {x2 : Int} {S : HS}  {p : (Sl) × HS} (h : f x0 x1 x2 S = some p) : HCall Try.prog base W0 β0 44 [(Sl.hv x0), (.int .i64 x1), (.int .i64 x2)] S (fun v S1 => v = (Sl.hv p.1) ∧ S1 = p.2) := by
  unfold f at h
  refine HCall.of_run at_.at_ body ?_
  show HRun Try.prog base W0 β0 44 none [.code c0] ⟨[(Sl.hv x0), (.int .i64 x1), (.int .i64 x2), .tup [], .tup [], .tup [], .tup [], .tup [], .tup [], .tup [], .tup [], .tup [], .tup [], .tup [], .tup [], .tup [], .tup [], .tup [], .tup [], .tup [], .tup [], .tup [], .tup [], .tup [], .tup [], .tup [], .tup [], .tup [], .tup [], .tup [], .tup [], .tup [], .tup []], []⟩ S _
  refine q_seq e0 ?_
  refine q_region e1 rfl ?_
  refine q_op (dst := some 6) rfl (fun _ ho => ok_assign ho (.const fun _ => .slNil none)) ?_
  refine hr_region_end ?_
  try dsimp only [HAct.put, List.set_cons_zero, List.set_cons_succ]
  refine q_seq e2 ?_
  refine q_region e3 rfl ?_
  refine q_op (dst := some 8) rfl (fun _ ho => ok_move ho (.tmp rfl)) ?_
  refine q_op (dst := some 9) rfl (fun _ ho => ok_move ho (.tmp rfl)) ?_
  refine q_op (dst := some 10) rfl (fun _ ho => ok_move ho (.tmp rfl)) ?_
  refine q_op (dst := some 11) rfl (fun _ ho => ok_move ho (.tmp rfl)) ?_
  try dsimp only [HAct.put, List.set_cons_zero, List.set_cons_succ]
  refine q_op (dst := some 12) rfl (fun _ ho => ok_len_sl (q := Sl.a x0) (n := Sl.len x0) (z := Sl.cap x0) ho rfl tu72 (.tmp rfl)) ?_
  obtain ⟨p1, hp1, h⟩ := bindo h
  refine q_op (dst := some 13) rfl (fun _ ho => ok_slice3 (kl := .i64) (kh := .i64) (s := x0) (l := x1) (h := x2) ho tu72 si78 (.tmp rfl) (.inr ⟨_, rfl, (.tmp rfl)⟩) (.inr ⟨_, rfl, (.tmp rfl)⟩) (.tmp rfl) hp1) ?_
  refine hr_region_end ?_
  try dsimp only [HAct.put, List.set_cons_zero, List.set_cons_succ]
  refine q_seq e4 ?_
  refine q_seq e5 ?_
  refine q_region e6 rfl ?_
  refine q_op (dst := some 14) rfl (fun _ ho => ok_move ho (.tmp rfl)) ?_
  refine q_op (dst := some 15) rfl (fun _ ho => ok_move ho (.tmp rfl)) ?_
  refine q_op (dst := some 16) rfl (fun _ ho => ok_ibin ho (.tmp rfl) (.tmp rfl) rfl) ?_
  refine hr_region_end ?_
  try dsimp only [HAct.put, List.set_cons_zero, List.set_cons_succ]
  rcases ifc h with ⟨hc2, h⟩ | ⟨hc2, h⟩
  · refine q_cond_t e7 (.tmp rfl) (decide_eq_true hc2) ?_
    refine q_seq e8 ?_
    refine q_region e9 rfl ?_
    refine q_op (dst := some 17) rfl (fun _ ho => ok_move ho (.tmp rfl)) ?_
    refine q_op (dst := some 6) rfl (fun _ ho => ok_assign ho (.tmp rfl)) ?_
    refine hr_region_end ?_
    try dsimp only [HAct.put, List.set_cons_zero, List.set_cons_succ]
    cases h
    exact q_ret e10 at_.at_ rfl (res1 rfl rfl) ⟨rfl, rfl⟩
  · refine q_cond_f e7 (.tmp rfl) (decide_eq_false hc2) ?_
    refine q_skipc e11 ?_
    refine q_seq e12 ?_
    refine q_region e13 rfl ?_
    refine q_op (dst := some 18) rfl (fun _ ho => ok_move ho (.tmp rfl)) ?_
    refine q_op (dst := some 19) rfl (fun _ ho => ok_len_sl (q := Sl.a x0) (n := Sl.len x0) (z := Sl.cap x0) ho rfl tu72 (.tmp rfl)) ?_
    refine q_op (dst := some 7) rfl (fun _ ho => ok_assign ho (.tmp rfl)) ?_
    refine hr_region_end ?_
    try dsimp only [HAct.put, List.set_cons_zero, List.set_cons_succ]
    refine q_seq e14 ?_
    refine x_start (cls := [0, 0, 1, 0, 0, 1, 2, 0]) (rk := [0, 1, 2, 3, 4, 5, 6, 7]) e15 (by kernel_rfl) ?_
    refine x_go (f_op (dst := some 20) (ts := [0]) rfl (by intro _ _ h; cases h) (by kernel_rfl) (fun _ _ ho => ok_move ho (.tmp rfl))) rfl ?_
    refine x_go (f_op (dst := some 21) (ts := [1]) rfl (by intro _ _ h; cases h) (by kernel_rfl) (fun _ _ ho => ok_move ho (.tmp rfl))) rfl ?_
    obtain ⟨p3, hp3, h⟩ := bindo h
    refine x_go (r_op (dst := some 22) (ts := [20, 21]) rfl (by intro _ _ h; cases h) (by kernel_rfl) (fun _ ho => ok_slice (kl := .i64) (kh := .i64) (s := x0) (l := 0) (h := x1) ho tu72 si78 (.tmp rfl) (.inl ⟨rfl, rfl⟩) (.inr ⟨_, rfl, (.tmp rfl)⟩) hp3)) rfl ?_
    refine x_go (f_op (dst := some 23) (ts := [0]) rfl (by intro _ _ h; cases h) (by kernel_rfl) (fun _ _ ho => ok_move ho (.tmp rfl))) rfl ?_
    try dsimp only [HAct.put, List.set_cons_zero, List.set_cons_succ]
    refine x_go (f_op (dst := some 24) (ts := [2]) rfl (by intro _ _ h; cases h) (by kernel_rfl) (fun _ _ ho => ok_move ho (.tmp rfl))) rfl ?_
    obtain ⟨p4, hp4, h⟩ := bindo h
    refine x_go (r_op (dst := some 25) (ts := [23, 24]) rfl (by intro _ _ h; cases h) (by kernel_rfl) (fun _ ho => ok_slice (kl := .i64) (kh := .i64) (s := x0) (l := x2) (h := (Sl.len x0 : Int)) ho tu72 si78 (.tmp rfl) (.inr ⟨_, rfl, (.tmp rfl)⟩) (.inl ⟨rfl, rfl⟩) hp4)) rfl ?_
    obtain ⟨p5, hp5, h⟩ := bindo h
    obtain ⟨p6, hp6, h⟩ := bindo h
    refine x_go (e_op (dst := some 26) (ts := [22, 25]) rfl (by intro _ _ h; cases h) (by kernel_rfl) (fun _ ho => ok_append (s := p3) (s1 := p4) el72 ho rfl rfl ⟨_, tu72⟩ (.tmp rfl) (.tmp rfl) hp5 hp6)) rfl ?_
    refine x_go (f_op (dst := some 0) (ts := [26]) rfl (by intro _ _ h; cases h) (by kernel_rfl) (fun _ _ ho => ok_assign ho (.tmp rfl))) rfl ?_
    refine x_rest rfl ?_
    refine hr_region_end ?_
    try dsimp only [HAct.put, List.set_cons_zero, List.set_cons_succ]
    refine q_seq e16 ?_
    refine q_region e17 rfl ?_
    refine q_op (dst := some 27) rfl (fun _ ho => ok_move ho (.tmp rfl)) ?_
    refine q_op (dst := some 28) rfl (fun _ ho => ok_move ho (.tmp rfl)) ?_
    refine q_op (dst := some 29) rfl (fun _ ho => ok_len_sl (q := Sl.a (p6.1)) (n := Sl.len (p6.1)) (z := Sl.cap (p6.1)) ho rfl tu72 (.tmp rfl)) ?_
    refine q_op (dst := some 30) rfl (fun _ ho => ok_move ho (.tmp rfl)) ?_
    try dsimp only [HAct.put, List.set_cons_zero, List.set_cons_succ]
    obtain ⟨p7, hp7, h⟩ := bindo h
    refine q_op (dst := some 31) rfl (fun _ ho => ok_slice (kl := .i64) (kh := .i64) (s := (p6.1)) (l := (Sl.len (p6.1) : Int)) (h := (Sl.len x0 : Int)) ho tu72 si78 (.tmp rfl) (.inr ⟨_, rfl, (.tmp rfl)⟩) (.inr ⟨_, rfl, (.tmp rfl)⟩) hp7) ?_
    obtain ⟨p8, hp8, h⟩ := bindo h
    refine q_op (dst := none) rfl (fun _ ho => ok_clear (s := p7) el72 ho rfl (.tmp rfl) hp8) ?_
    refine hr_region_end ?_
    try dsimp only [HAct.put, List.set_cons_zero, List.set_cons_succ]
    refine q_seq e18 ?_
    refine q_region e19 rfl ?_
    refine q_op (dst := some 32) rfl (fun _ ho => ok_move ho (.tmp rfl)) ?_
    refine q_op (dst := some 6) rfl (fun _ ho => ok_assign ho (.tmp rfl)) ?_
    refine hr_region_end ?_
    try dsimp only [HAct.put, List.set_cons_zero, List.set_cons_succ]
    cases h
    exact q_ret e20 at_.at_ rfl (res1 rfl rfl) ⟨rfl, rfl⟩
end
end slices_Delete_timer_item_int_timer_item_int
namespace slices_Delete_timer_item_int_timer_item_int_w
theorem at_ : FnAt Try.prog 44 Try.f44 := slices_Delete_timer_item_int_timer_item_int.at_
theorem body : Try.f44.body = some slices_Delete_timer_item_int_timer_item_int.c0 := slices_Delete_timer_item_int_timer_item_int.body
def f (x0 : Sl) (x1 : Int) (x2 : Int) (S : HS) : Option ((Sl) × HS) := HS.del S x0 x1 x2 2
theorem snd {base : Nat} {W0 : World} {β0 : Bt} {x0 : Sl} {x1 x2 : Int} {S : HS} {p : (Sl) × HS} (h : f x0 x1 x2 S = some p) : HCall Try.prog base W0 β0 44 [(Sl.hv x0), (.int .i64 x1), (.int .i64 x2)] S (fun v S1 => v = (Sl.hv p.1) ∧ S1 = p.2) :=
  del_snd (zr := [(.int .i64 0), (.int .i64 0)]) (fun _ _ _ h => slices_Delete_timer_item_int_timer_item_int.snd h) h
end slices_Delete_timer_item_int_timer_item_int_w
namespace timer_Table_int_Stop
abbrev id : Nat := 31
theorem at_ : FnAt Try.prog 31 Try.f31 := ⟨Try.func31, by kernel_rfl⟩
noncomputable def c0 : Code := (Try.f31.body).getD .skip
noncomputable def c1 : Code := match c0 with | .seq x _ => x | _ => .skip
noncomputable def c2 : Code := match c0 with | .seq _ x => x | _ => .skip
noncomputable def c3 : Code := match c2 with | .seq x _ => x | _ => .skip
noncomputable def c4 : Code := match c2 with | .seq _ x => x | _ => .skip
noncomputable def c5 : Code := match c4 with | .seq x _ => x | _ => .skip
noncomputable def c6 : Code := match c5 with | .seq x _ => x | _ => .skip
noncomputable def c7 : Code := match c5 with | .seq _ x => x | _ => .skip
noncomputable def c8 : Code := match c7 with | .cond _ x _ => x | _ => .skip
noncomputable def c9 : Code := match c8 with | .seq x _ => x | _ => .skip
noncomputable def c10 : Code := match c8 with | .seq _ x => x | _ => .skip
noncomputable def c11 : Code := match c7 with | .cond _ _ x => x | _ => .skip
noncomputable def c12 : Code := match c4 with | .seq _ x => x | _ => .skip
noncomputable def c13 : Code := match c12 with | .seq x _ => x | _ => .skip
noncomputable def c14 : Code := match c13 with | .seq x _ => x | _ => .skip
noncomputable def c15 : Code := match c13 with | .seq _ x => x | _ => .skip
noncomputable def c16 : Code := match c15 with | .seq x _ => x | _ => .skip
noncomputable def c17 : Code := match c15 with | .seq _ x => x | _ => .skip
noncomputable def c18 : Code := match c17 with | .cond _ x _ => x | _ => .skip
noncomputable def c19 : Code := match c17 with | .cond _ _ x => x | _ => .skip
noncomputable def c20 : Code := match c12 with | .seq _ x => x | _ => .skip
noncomputable def c21 : Code := match c20 with | .seq x _ => x | _ => .skip
noncomputable def c22 : Code := match c20 with | .seq _ x => x | _ => .skip
noncomputable def c23 : Code := match c22 with | .seq x _ => x | _ => .skip
noncomputable def c24 : Code := match c22 with | .seq _ x => x | _ => .skip
theorem e0 : c0 = .seq c1 c2 := by kernel_rfl
noncomputable def r1 : Array Oper := match c1 with | .region _ x _ => x | _ => #[]
theorem e1 : c1 = .region 0 r1 false := by kernel_rfl
theorem e2 : c2 = .seq c3 c4 := by kernel_rfl
noncomputable def r3 : Array Oper := match c3 with | .region _ x _ => x | _ => #[]
theorem e3 : c3 = .region 1 r3 false := by kernel_rfl
theorem e4 : c4 = .seq c5 c12 := by kernel_rfl
theorem e5 : c5 = .seq c6 c7 := by kernel_rfl
noncomputable def r6 : Array Oper := match c6 with | .region _ x _ => x | _ => #[]
theorem e6 : c6 = .region 2 r6 false := by kernel_rfl
theorem e7 : c7 = .cond (.tmp 16) c8 c11 := by kernel_rfl
theorem e8 : c8 = .seq c9 c10 := by kernel_rfl
noncomputable def r9 : Array Oper := match c9 with | .region _ x _ => x | _ => #[]
theorem e9 : c9 = .region 3 r9 false := by kernel_rfl
theorem e10 : c10 = .ret := by kernel_rfl
theorem e11 : c11 = .skip := by kernel_rfl
theorem e12 : c12 = .seq c13 c20 := by kernel_rfl
theorem e13 : c13 = .seq c14 c15 := by kernel_rfl
noncomputable def r14 : Array Oper := match c14 with | .region _ x _ => x | _ => #[]
theorem e14 : c14 = .region 4 r14 false := by kernel_rfl
theorem e15 : c15 = .seq c16 c17 := by kernel_rfl
noncomputable def r16 : Array Oper := match c16 with | .region _ x _ => x | _ => #[]
theorem e16 : c16 = .region 5 r16 false := by kernel_rfl
theorem e17 : c17 = .cond (.tmp 28) c18 c19 := by kernel_rfl
noncomputable def r18 : Array Oper := match c18 with | .region _ x _ => x | _ => #[]
theorem e18 : c18 = .region 6 r18 false := by kernel_rfl
theorem e19 : c19 = .skip := by kernel_rfl
theorem e20 : c20 = .seq c21 c22 := by kernel_rfl
noncomputable def r21 : Array Oper := match c21 with | .region _ x _ => x | _ => #[]
theorem e21 : c21 = .region 7 r21 false := by kernel_rfl
theorem e22 : c22 = .seq c23 c24 := by kernel_rfl
noncomputable def r23 : Array Oper := match c23 with | .region _ x _ => x | _ => #[]
theorem e23 : c23 = .region 8 r23 false := by kernel_rfl
theorem e24 : c24 = .ret := by kernel_rfl
theorem body : Try.f31.body = some c0 := by kernel_rfl
section
variable {base : Nat} {W0 : World} {β0 : Bt}
def J0 (D : Dp) (H : Hd) (k : Nat) (y0 : (Option HA)) (y1 : Int) (S : HS) : Option ((Bool) × HS) :=
  (Option.bind (y0) fun p12 =>
  (Option.bind (HS.ldM S (HA.fld p12 1)) fun p13 =>
  (Option.bind (HS.mdel S p13 (.int .i64 y1)) fun p14 =>
  some (true, p14))))
theorem J0_snd {D : Dp} {H : Hd} {k : Nat} (hD : DSound Try.prog base W0 D) (hH : HSound Try.prog base W0 β0 H)  {y0 : (Option HA)} {y1 : Int} {S : HS} {p : (Bool) × HS} {g2 g3 g4 g5 g6 g7 g8 g9 g10 g11 g12 g13 g14 g15 g16 g17 g18 g19 g20 g21 g22 g23 g24 g25 g26 g27 g28 g29 g30 g31 g32 g33 g34 g35 g36 g37 g38 g39 g40 g41 g42 g43 g44 : HV} (h : J0 D H k y0 y1 S = some p) : HRun Try.prog base W0 β0 31 none [.code c20] ⟨[(.ptr y0), (.int .i64 y1), g2, g3, g4, g5, g6, g7, g8, g9, g10, g11, g12, g13, g14, g15, g16, g17, g18, g19, g20, g21, g22, g23, g24, g25, g26, g27, g28, g29, g30, g31, g32, g33, g34, g35, g36, g37, g38, g39, g40, g41, g42, g43, g44], []⟩ S (fun v S1 => v = (.bool p.1) ∧ S1 = p.2) := by
  unfold J0 at h
  refine q_seq e20 ?_
  refine q_region e21 rfl ?_
  refine q_op (dst := some 40) rfl (fun _ ho => ok_move ho (.tmp rfl)) ?_
  obtain ⟨p12, hp12, h⟩ := bindo h
  refine q_op (dst := some 41) rfl (fun _ ho => ok_nilCheck_p ho (.tmp rfl) hp12) ?_
  refine q_op (dst := some 42) rfl (fun _ ho => ok_fieldAddr_s ho fi74_1 (by decide) (.tmp rfl) rfl) ?_
  obtain ⟨p13, hp13, h⟩ := bindo h
  refine q_op (dst := some 43) rfl (fun _ ho => ok_load_s ho sc71 (.tmp rfl) rfl (ldM_out hp13)) ?_
  try dsimp only [HAct.put, List.set_cons_zero, List.set_cons_succ]
  refine q_op (dst := some 44) rfl (fun _ ho => ok_move ho (.tmp rfl)) ?_
  obtain ⟨p14, hp14, h⟩ := bindo h
  refine q_op (dst := none) rfl (fun _ ho => ok_delete ho rfl tu71 (keyInt tu3) (.tmp rfl) (.tmp rfl) hp14) ?_
  refine hr_region_end ?_
  try dsimp only [HAct.put, List.set_cons_zero, List.set_cons_succ]
  refine q_seq e22 ?_
  refine q_region e23 rfl ?_
  refine q_op (dst := some 4) rfl (fun _ ho => ok_assign ho (.bool _)) ?_
  refine hr_region_end ?_
  try dsimp only [HAct.put, List.set_cons_zero, List.set_cons_succ]
  cases h
  exact q_ret e24 at_.at_ rfl (res1 rfl rfl) ⟨rfl, rfl⟩
def f (D : Dp) (H : Hd) (k : Nat) (x0 : (Option HA)) (x1 : Int) (S : HS) : Option ((Bool) × HS) :=
  (Option.bind (timer_Table_int_At.f x0 x1 S) fun p1 =>
  (if (!p1.1.2) = true then
  some (false, p1.2) else
  (Option.bind (x0) fun p3 =>
  (Option.bind (HS.ldSl p1.2 (HA.fld p3 0)) fun p4 =>
  (Option.bind (slices_BinarySearchFunc_timer_item_int_timer_item_int_timer_item_int.f D H k p4 x1 p1.1.1 (HV.fn (.func 33) [] []) p1.2) fun p5 =>
  (if p5.1.2 = true then
  (Option.bind (x0) fun p7 =>
  (Option.bind (HS.ldSl p5.2 (HA.fld p7 0)) fun p8 =>
  (Option.bind (slices_Delete_timer_item_int_timer_item_int_w.f p8 p5.1.1 (w64 (p5.1.1 + 1)) p5.2) fun p9 =>
  (Option.bind (x0) fun p10 =>
  (Option.bind (HS.sets p9.2 (HA.fld p10 0) [(Sl.hv p9.1)]) fun p11 =>
  J0 D H k x0 x1 p11))))) else
  J0 D H k x0 x1 p5.2))))))
theorem snd {D : Dp} {H : Hd} {k : Nat} {x0 : (Option HA)} {x1 : Int} {S : HS} (hD : DSound Try.prog base W0 D) (hH : HSound Try.prog base W0 β0 H)  {p : (Bool) × HS} (h : f D H k x0 x1 S = some p) : HCall Try.prog base W0 β0 31 [(.ptr x0), (.int .i64 x1)] S (fun v S1 => v = (.bool p.1) ∧ S1 = p.2) := by
  unfold f at h
  refine HCall.of_run at_.at_ body ?_
  show HRun Try.prog base W0 β0 31 none [.code c0] ⟨[(.ptr x0), (.int .i64 x1), .tup [], .tup [], .tup [], .tup [], .tup [], .tup [], .tup [], .tup [], .tup [], .tup [], .tup [], .tup [], .tup [], .tup [], .tup [], .tup [], .tup [], .tup [], .tup [], .tup [], .tup [], .tup [], .tup [], .tup [], .tup [], .tup [], .tup [], .tup [], .tup [], .tup [], .tup [], .tup [], .tup [], .tup [], .tup [], .tup [], .tup [], .tup [], .tup [], .tup [], .tup [], .tup [], .tup []], []⟩ S _
  refine q_seq e0 ?_
  refine q_region e1 rfl ?_
  refine q_op (dst := some 4) rfl (fun _ ho => ok_assign ho (.bool _)) ?_
  refine hr_region_end ?_
  try dsimp only [HAct.put, List.set_cons_zero, List.set_cons_succ]
  refine q_seq e2 ?_
  refine q_region e3 rfl ?_
  refine q_op (dst := some 10) rfl (fun _ ho => ok_move ho (.tmp rfl)) ?_
  refine q_op (dst := some 11) rfl (fun _ ho => ok_move ho (.tmp rfl)) ?_
  obtain ⟨p1, hp1, h⟩ := bindo h
  refine q_call (dst := some 12) rfl (.func _) (.cons (.tmp rfl) (.cons (.tmp rfl) Evs.nil)) (HInv.static timer_Table_int_At.at_ timer_Table_int_At.body (timer_Table_int_At.snd  hp1)) ?_
  rintro _ _ ⟨rfl, rfl⟩
  refine q_op (dst := some 9) rfl (fun _ ho => ok_move ho (.tmp rfl)) ?_
  try dsimp only [HAct.put, List.set_cons_zero, List.set_cons_succ]
  refine q_op (dst := some 13) rfl (fun _ ho => ok_extract ho (.tmp rfl) rfl) ?_
  refine q_op (dst := some 14) rfl (fun _ ho => ok_extract ho (.tmp rfl) rfl) ?_
  refine q_op (dst := some 5) rfl (fun _ ho => ok_assign ho (.tmp rfl)) ?_
  refine q_op (dst := some 6) rfl (fun _ ho => ok_assign ho (.tmp rfl)) ?_
  refine hr_region_end ?_
  try dsimp only [HAct.put, List.set_cons_zero, List.set_cons_succ]
  refine q_seq e4 ?_
  refine q_seq e5 ?_
  refine q_region e6 rfl ?_
  refine q_op (dst := some 15) rfl (fun _ ho => ok_move ho (.tmp rfl)) ?_
  refine q_op (dst := some 16) rfl (fun _ ho => ok_not ho (.tmp rfl)) ?_
  refine hr_region_end ?_
  try dsimp only [HAct.put, List.set_cons_zero, List.set_cons_succ]
  rcases ifc h with ⟨hc2, h⟩ | ⟨hc2, h⟩
  · refine q_cond_t e7 (.tmp rfl) hc2 ?_
    refine q_seq e8 ?_
    refine q_region e9 rfl ?_
    refine q_op (dst := some 4) rfl (fun _ ho => ok_assign ho (.bool _)) ?_
    refine hr_region_end ?_
    try dsimp only [HAct.put, List.set_cons_zero, List.set_cons_succ]
    cases h
    exact q_ret e10 at_.at_ rfl (res1 rfl rfl) ⟨rfl, rfl⟩
  · refine q_cond_f e7 (.tmp rfl) (bfalse hc2) ?_
    refine q_skipc e11 ?_
    refine q_seq e12 ?_
    refine q_seq e13 ?_
    refine q_region e14 rfl ?_
    refine q_op (dst := some 18) rfl (fun _ ho => ok_move ho (.tmp rfl)) ?_
    obtain ⟨p3, hp3, h⟩ := bindo h
    refine q_op (dst := some 19) rfl (fun _ ho => ok_nilCheck_p ho (.tmp rfl) hp3) ?_
    refine q_op (dst := some 20) rfl (fun _ ho => ok_fieldAddr_s ho fi74_0 (by decide) (.tmp rfl) rfl) ?_
    obtain ⟨p4, hp4, h⟩ := bindo h
    refine q_op (dst := some 21) rfl (fun _ ho => ok_load_s ho sc72 (.tmp rfl) rfl (ldSl_out hp4)) ?_
    try dsimp only [HAct.put, List.set_cons_zero, List.set_cons_succ]
    refine q_op (dst := some 22) rfl (fun _ ho => ok_move ho (.tmp rfl)) ?_
    refine q_op (dst := some 23) rfl (fun _ ho => ok_move ho (.tmp rfl)) ?_
    refine q_op (dst := some 24) rfl (fun _ ho => ok_build (is := [0, 1]) (xs := [(.tmp 22), (.tmp 23)]) (r := [(.int .i64 x1), (.int .i64 p1.1.1)]) st78 ho rfl rfl (.cons (.tmp rfl) (.cons (.tmp rfl) Evs.nil)) rfl) ?_
    obtain ⟨p5, hp5, h⟩ := bindo h
    refine q_call (dst := some 25) rfl (.func _) (.cons (.tmp rfl) (.cons (.tmp rfl) (.cons (.func _) Evs.nil))) (HInv.static slices_BinarySearchFunc_timer_item_int_timer_item_int_timer_item_int.at_ slices_BinarySearchFunc_timer_item_int_timer_item_int_timer_item_int.body (slices_BinarySearchFunc_timer_item_int_timer_item_int_timer_item_int.snd hD hH hp5)) ?_
    rintro _ _ ⟨rfl, rfl⟩
    try dsimp only [HAct.put, List.set_cons_zero, List.set_cons_succ]
    refine q_op (dst := some 17) rfl (fun _ ho => ok_move ho (.tmp rfl)) ?_
    refine q_op (dst := some 26) rfl (fun _ ho => ok_extract ho (.tmp rfl) rfl) ?_
    refine q_op (dst := some 27) rfl (fun _ ho => ok_extract ho (.tmp rfl) rfl) ?_
    refine q_op (dst := some 7) rfl (fun _ ho => ok_assign ho (.tmp rfl)) ?_
    try dsimp only [HAct.put, List.set_cons_zero, List.set_cons_succ]
    refine q_op (dst := some 8) rfl (fun _ ho => ok_assign ho (.tmp rfl)) ?_
    refine hr_region_end ?_
    try dsimp only [HAct.put, List.set_cons_zero, List.set_cons_succ]
    refine q_seq e15 ?_
    refine q_region e16 rfl ?_
    refine q_op (dst := some 28) rfl (fun _ ho => ok_move ho (.tmp rfl)) ?_
    refine hr_region_end ?_
    try dsimp only [HAct.put, List.set_cons_zero, List.set_cons_succ]
    rcases ifc h with ⟨hc6, h⟩ | ⟨hc6, h⟩
    · refine q_cond_t e17 (.tmp rfl) hc6 ?_
      refine q_region e18 rfl ?_
      refine q_op (dst := some 29) rfl (fun _ ho => ok_move ho (.tmp rfl)) ?_
      refine q_op (dst := some 30) rfl (fun _ ho => ok_move ho (.tmp rfl)) ?_
      obtain ⟨p7, hp7, h⟩ := bindo h
      refine q_op (dst := some 31) rfl (fun _ ho => ok_nilCheck_p ho (.tmp rfl) hp7) ?_
      refine q_op (dst := some 32) rfl (fun _ ho => ok_fieldAddr_s ho fi74_0 (by decide) (.tmp rfl) rfl) ?_
      try dsimp only [HAct.put, List.set_cons_zero, List.set_cons_succ]
      obtain ⟨p8, hp8, h⟩ := bindo h
      refine q_op (dst := some 33) rfl (fun _ ho => ok_load_s ho sc72 (.tmp rfl) rfl (ldSl_out hp8)) ?_
      refine q_op (dst := some 34) rfl (fun _ ho => ok_move ho (.tmp rfl)) ?_
      refine q_op (dst := some 35) rfl (fun _ ho => ok_move ho (.tmp rfl)) ?_
      refine q_op (dst := some 36) rfl (fun _ ho => ok_ibin ho (.tmp rfl) (.int _ _) rfl) ?_
      try dsimp only [HAct.put, List.set_cons_zero, List.set_cons_succ]
      obtain ⟨p9, hp9, h⟩ := bindo h
      refine q_call (dst := some 37) rfl (.func _) (.cons (.tmp rfl) (.cons (.tmp rfl) (.cons (.tmp rfl) Evs.nil))) (HInv.static slices_Delete_timer_item_int_timer_item_int_w.at_ slices_Delete_timer_item_int_timer_item_int_w.body (slices_Delete_timer_item_int_timer_item_int_w.snd  hp9)) ?_
      rintro _ _ ⟨rfl, rfl⟩
      obtain ⟨p10, hp10, h⟩ := bindo h
      refine q_op (dst := some 38) rfl (fun _ ho => ok_nilCheck_p ho (.tmp rfl) hp10) ?_
      refine q_op (dst := some 39) rfl (fun _ ho => ok_fieldAddr_s ho fi74_0 (by decide) (.tmp rfl) rfl) ?_
      obtain ⟨p11, hp11, h⟩ := bindo h
      refine q_op (dst := none) rfl (fun _ ho => ok_store_s (v := (Sl.hv p9.1)) ho sz72 (.tmp rfl) rfl (.tmp rfl) rfl hp11) ?_
      refine hr_region_end ?_
      try dsimp only [HAct.put, List.set_cons_zero, List.set_cons_succ]
      try dsimp only [HAct.put, List.set_cons_zero, List.set_cons_succ]
      exact J0_snd hD hH h
    · refine q_cond_f e17 (.tmp rfl) (bfalse hc6) ?_
      refine q_skipc e19 ?_
      try dsimp only [HAct.put, List.set_cons_zero, List.set_cons_succ]
      exact J0_snd hD hH h
end
end timer_Table_int_Stop
namespace slices_Reverse_timer_item_int_timer_item_int
abbrev id : Nat := 54
theorem at_ : FnAt Try.prog 54 Try.f54 := ⟨Try.func54, by kernel_rfl⟩
noncomputable def c0 : Code := (Try.f54.body).getD .skip
noncomputable def c1 : Code := match c0 with | .seq x _ => x | _ => .skip
noncomputable def c2 : Code := match c0 with | .seq _ x => x | _ => .skip
noncomputable def c3 : Code := match c2 with | .block _ x => x | _ => .skip
noncomputable def c4 : Code := match c3 with | .loop x => x | _ => .skip
noncomputable def c5 : Code := match c4 with | .seq x _ => x | _ => .skip
noncomputable def c6 : Code := match c5 with | .seq x _ => x | _ => .skip
noncomputable def c7 : Code := match c5 with | .seq _ x => x | _ => .skip
noncomputable def c8 : Code := match c7 with | .cond _ x _ => x | _ => .skip
noncomputable def c9 : Code := match c7 with | .cond _ _ x => x | _ => .skip
noncomputable def c10 : Code := match c4 with | .seq _ x => x | _ => .skip
noncomputable def c11 : Code := match c10 with | .seq x _ => x | _ => .skip
noncomputable def c12 : Code := match c11 with | .block _ x => x | _ => .skip
noncomputable def c13 : Code := match c10 with | .seq _ x => x | _ => .skip
theorem e0 : c0 = .seq c1 c2 := by kernel_rfl
noncomputable def r1 : Array Oper := match c1 with | .region _ x _ => x | _ => #[]
theorem e1 : c1 = .region 0 r1 false := by kernel_rfl
theorem e2 : c2 = .block 0 c3 := by kernel_rfl
theorem e3 : c3 = .loop c4 := by kernel_rfl
theorem e4 : c4 = .seq c5 c10 := by kernel_rfl
theorem e5 : c5 = .seq c6 c7 := by kernel_rfl
noncomputable def r6 : Array Oper := match c6 with | .region _ x _ => x | _ => #[]
theorem e6 : c6 = .region 1 r6 false := by kernel_rfl
theorem e7 : c7 = .cond (.tmp 9) c8 c9 := by kernel_rfl
theorem e8 : c8 = .skip := by kernel_rfl
theorem e9 : c9 = .exit 0 := by kernel_rfl
theorem e10 : c10 = .seq c11 c13 := by kernel_rfl
theorem e11 : c11 = .block 1 c12 := by kernel_rfl
noncomputable def r12 : Array Oper := match c12 with | .region _ x _ => x | _ => #[]
theorem e12 : c12 = .region 3 r12 true := by kernel_rfl
noncomputable def r13 : Array Oper := match c13 with | .region _ x _ => x | _ => #[]
theorem e13 : c13 = .region 2 r13 false := by kernel_rfl
theorem body : Try.f54.body = some c0 := by kernel_rfl
section
variable {base : Nat} {W0 : World} {β0 : Bt}
def L0 (k : Nat) : Nat → Sl → Int → Int → HS → Option ((Unit) × HS)
  | 0, _, _, _, _ => none
  | n + 1, y0, y2, y3, S =>
    (if y2 < y3 then
    (Option.bind (HS.idx S y0 y3 2) fun p2 =>
    (Option.bind (HS.ldI S .i64 (HA.fld p2 0)) fun p3 =>
    (Option.bind (HS.ldI S .i64 (HA.fld p2 1)) fun p4 =>
    (Option.bind (HS.idx S y0 y2 2) fun p5 =>
    (Option.bind (HS.ldI S .i64 (HA.fld p5 0)) fun p6 =>
    (Option.bind (HS.ldI S .i64 (HA.fld p5 1)) fun p7 =>
    (Option.bind (HS.idx S y0 y2 2) fun p8 =>
    (Option.bind (HS.sets S p8 [(.int .i64 p3), (.int .i64 p4)]) fun p9 =>
    (Option.bind (HS.idx p9 y0 y3 2) fun p10 =>
    (Option.bind (HS.sets p9 p10 [(.int .i64 p6), (.int .i64 p7)]) fun p11 =>
    (L0 k n) y0 (w64 (y2 + 1)) (w64 (y3 - 1)) p11)))))))))) else
    some ((), S))
theorem L0_snd {k : Nat}  : ∀ {n : Nat} ⦃y0 : Sl⦄ ⦃y2 : Int⦄ ⦃y3 : Int⦄ ⦃S : HS⦄ ⦃p : (Unit) × HS⦄ ⦃g1 g4 g5 g6 g7 g8 g9 g10 g11 g12 g13 g14 g15 g16 g17 g18 g19 g20 g21 g22 g23 g24 g25 g26 g27 : HV⦄, L0 k n y0 y2 y3 S = some p → HRun Try.prog base W0 β0 54 none [.inLoop c4, .inBlock 0] ⟨[(Sl.hv y0), g1, (.int .i64 y2), (.int .i64 y3), g4, g5, g6, g7, g8, g9, g10, g11, g12, g13, g14, g15, g16, g17, g18, g19, g20, g21, g22, g23, g24, g25, g26, g27], []⟩ S (fun v S1 => v = (.tup []) ∧ S1 = p.2) := by
  intro n
  induction n with
  | zero => intro _ _ _ _ _ _ _ _ _ _ _ _ _ _ _ _ _ _ _ _ _ _ _ _ _ _ _ _ _ _ h; cases h
  | succ n ih =>
    intro y0 y2 y3 S p g1 g4 g5 g6 g7 g8 g9 g10 g11 g12 g13 g14 g15 g16 g17 g18 g19 g20 g21 g22 g23 g24 g25 g26 g27 h
    simp only [L0] at h
    refine hr_inLoop ?_
    refine q_seq e4 ?_
    refine q_seq e5 ?_
    refine q_region e6 rfl ?_
    refine q_op (dst := some 7) rfl (fun _ ho => ok_move ho (.tmp rfl)) ?_
    refine q_op (dst := some 8) rfl (fun _ ho => ok_move ho (.tmp rfl)) ?_
    refine q_op (dst := some 9) rfl (fun _ ho => ok_ibin ho (.tmp rfl) (.tmp rfl) rfl) ?_
    refine hr_region_end ?_
    try dsimp only [HAct.put, List.set_cons_zero, List.set_cons_succ]
    rcases ifc h with ⟨hc1, h⟩ | ⟨hc1, h⟩
    · refine q_cond_t e7 (.tmp rfl) (decide_eq_true hc1) ?_
      refine q_skipc e8 ?_
      refine q_seq e10 ?_
      refine q_block e11 ?_
      refine x_start (cls := [0, 0, 0, 0, 0, 0, 1, 1, 0, 0, 1, 1, 1, 2, 1, 2]) (rk := [0, 1, 12, 13, 2, 3, 4, 5, 6, 7, 8, 9, 10, 11, 14, 15]) e12 (by kernel_rfl) ?_
      refine x_go (f_op (dst := some 14) (ts := [0]) rfl (by intro _ _ h; cases h) (by kernel_rfl) (fun _ _ ho => ok_move ho (.tmp rfl))) rfl ?_
      refine x_go (f_op (dst := some 15) (ts := [2]) rfl (by intro _ _ h; cases h) (by kernel_rfl) (fun _ _ ho => ok_move ho (.tmp rfl))) rfl ?_
      refine x_go (f_op (dst := some 16) (ts := [0]) rfl (by intro _ _ h; cases h) (by kernel_rfl) (fun _ _ ho => ok_move ho (.tmp rfl))) rfl ?_
      refine x_go (f_op (dst := some 17) (ts := [3]) rfl (by intro _ _ h; cases h) (by kernel_rfl) (fun _ _ ho => ok_move ho (.tmp rfl))) rfl ?_
      try dsimp only [HAct.put, List.set_cons_zero, List.set_cons_succ]
      refine x_go (f_op (dst := some 18) (ts := [0]) rfl (by intro _ _ h; cases h) (by kernel_rfl) (fun _ _ ho => ok_move ho (.tmp rfl))) rfl ?_
      refine x_go (f_op (dst := some 19) (ts := [3]) rfl (by intro _ _ h; cases h) (by kernel_rfl) (fun _ _ ho => ok_move ho (.tmp rfl))) rfl ?_
      obtain ⟨p2, hp2, h⟩ := bindo h
      refine x_go (r_op (dst := some 20) (ts := [18, 19]) rfl (by intro _ _ h; cases h) (by kernel_rfl) (fun _ ho => ok_indexAddr (s := y0) ho tu72 sz78 (.tmp rfl) (.tmp rfl) hp2)) rfl ?_
      obtain ⟨p3, hp3, h⟩ := bindo h
      obtain ⟨p4, hp4, h⟩ := bindo h
      refine x_go (r_op (dst := some 21) (ts := [20]) rfl (by intro _ _ h; cases h) (by kernel_rfl) (fun _ ho => ok_load_a (vs := [(.int .i64 p3), (.int .i64 p4)]) ho ia78 (.tmp rfl) rfl ⟨ldI_out hp3, ldI_out hp4, trivial⟩ (by simp))) rfl ?_
      try dsimp only [HAct.put, List.set_cons_zero, List.set_cons_succ]
      refine x_go (f_op (dst := some 22) (ts := [0]) rfl (by intro _ _ h; cases h) (by kernel_rfl) (fun _ _ ho => ok_move ho (.tmp rfl))) rfl ?_
      refine x_go (f_op (dst := some 23) (ts := [2]) rfl (by intro _ _ h; cases h) (by kernel_rfl) (fun _ _ ho => ok_move ho (.tmp rfl))) rfl ?_
      obtain ⟨p5, hp5, h⟩ := bindo h
      refine x_go (r_op (dst := some 24) (ts := [22, 23]) rfl (by intro _ _ h; cases h) (by kernel_rfl) (fun _ ho => ok_indexAddr (s := y0) ho tu72 sz78 (.tmp rfl) (.tmp rfl) hp5)) rfl ?_
      obtain ⟨p6, hp6, h⟩ := bindo h
      obtain ⟨p7, hp7, h⟩ := bindo h
      refine x_go (r_op (dst := some 25) (ts := [24]) rfl (by intro _ _ h; cases h) (by kernel_rfl) (fun _ ho => ok_load_a (vs := [(.int .i64 p6), (.int .i64 p7)]) ho ia78 (.tmp rfl) rfl ⟨ldI_out hp6, ldI_out hp7, trivial⟩ (by simp))) rfl ?_
      try dsimp only [HAct.put, List.set_cons_zero, List.set_cons_succ]
      obtain ⟨p8, hp8, h⟩ := bindo h
      refine x_go (r_op (dst := some 26) (ts := [14, 15]) rfl (by intro _ _ h; cases h) (by kernel_rfl) (fun _ ho => ok_indexAddr (s := y0) ho tu72 sz78 (.tmp rfl) (.tmp rfl) hp8)) rfl ?_
      obtain ⟨p9, hp9, h⟩ := bindo h
      refine x_go (e_op (dst := none) (ts := [26, 21]) rfl (by intro _ _ h; cases h) (by kernel_rfl) (fun _ ho => ok_store_s (v := (.agg [(.int .i64 p3), (.int .i64 p4)])) ho sz78 (.tmp rfl) rfl (.tmp rfl) rfl hp9)) rfl ?_
      obtain ⟨p10, hp10, h⟩ := bindo h
      refine x_go (r_op (dst := some 27) (ts := [16, 17]) rfl (by intro _ _ h; cases h) (by kernel_rfl) (fun _ ho => ok_indexAddr (s := y0) ho tu72 sz78 (.tmp rfl) (.tmp rfl) hp10)) rfl ?_
      obtain ⟨p11, hp11, h⟩ := bindo h
      refine x_go (e_op (dst := none) (ts := [27, 25]) rfl (by intro _ _ h; cases h) (by kernel_rfl) (fun _ ho => ok_store_s (v := (.agg [(.int .i64 p6), (.int .i64 p7)])) ho sz78 (.tmp rfl) rfl (.tmp rfl) rfl hp11)) rfl ?_
      refine x_rest rfl ?_
      refine hr_region_end ?_
      try dsimp only [HAct.put, List.set_cons_zero, List.set_cons_succ]
      refine hr_inBlock ?_
      refine q_region e13 rfl ?_
      refine q_op (dst := some 10) rfl (fun _ ho => ok_move ho (.tmp rfl)) ?_
      refine q_op (dst := some 11) rfl (fun _ ho => ok_ibin ho (.tmp rfl) (.int _ _) rfl) ?_
      refine q_op (dst := some 12) rfl (fun _ ho => ok_move ho (.tmp rfl)) ?_
      refine q_op (dst := some 13) rfl (fun _ ho => ok_ibin ho (.tmp rfl) (.int _ _) rfl) ?_
      try dsimp only [HAct.put, List.set_cons_zero, List.set_cons_succ]
      refine q_op (dst := some 2) rfl (fun _ ho => ok_assign ho (.tmp rfl)) ?_
      refine q_op (dst := some 3) rfl (fun _ ho => ok_assign ho (.tmp rfl)) ?_
      refine hr_region_end ?_
      try dsimp only [HAct.put, List.set_cons_zero, List.set_cons_succ]
      try dsimp only [HAct.put, List.set_cons_zero, List.set_cons_succ]
      exact ih h
    · refine q_cond_f e7 (.tmp rfl) (decide_eq_false hc1) ?_
      refine q_exit e9 rfl ?_
      cases h
      exact q_end at_.at_ rfl (res0 rfl) ⟨rfl, rfl⟩
def f (k : Nat) (x0 : Sl) (S : HS) : Option ((Unit) × HS) :=
  L0 k k x0 0 (w64 ((Sl.len x0 : Int) - 1)) S
theorem snd {k : Nat} {x0 : Sl} {S : HS}  {p : (Unit) × HS} (h : f k x0 S = some p) : HCall Try.prog base W0 β0 54 [(Sl.hv x0)] S (fun v S1 => v = (.tup []) ∧ S1 = p.2) := by
  unfold f at h
  refine HCall.of_run at_.at_ body ?_
  show HRun Try.prog base W0 β0 54 none [.code c0] ⟨[(Sl.hv x0), .tup [], .tup [], .tup [], .tup [], .tup [], .tup [], .tup [], .tup [], .tup [], .tup [], .tup [], .tup [], .tup [], .tup [], .tup [], .tup [], .tup [], .tup [], .tup [], .tup [], .tup [], .tup [], .tup [], .tup [], .tup [], .tup [], .tup []], []⟩ S _
  refine q_seq e0 ?_
  refine q_region e1 rfl ?_
  refine q_op (dst := some 4) rfl (fun _ ho => ok_move ho (.tmp rfl)) ?_
  refine q_op (dst := some 5) rfl (fun _ ho => ok_len_sl (q := Sl.a x0) (n := Sl.len x0) (z := Sl.cap x0) ho rfl tu72 (.tmp rfl)) ?_
  refine q_op (dst := some 6) rfl (fun _ ho => ok_ibin ho (.tmp rfl) (.int _ _) rfl) ?_
  refine q_op (dst := some 2) rfl (fun _ ho => ok_assign ho (.int _ _)) ?_
  try dsimp only [HAct.put, List.set_cons_zero, List.set_cons_succ]
  refine q_op (dst := some 3) rfl (fun _ ho => ok_assign ho (.tmp rfl)) ?_
  refine hr_region_end ?_
  try dsimp only [HAct.put, List.set_cons_zero, List.set_cons_succ]
  refine q_block e2 ?_
  refine q_loop e3 ?_
  try dsimp only [HAct.put, List.set_cons_zero, List.set_cons_succ]
  exact L0_snd  h
end
end slices_Reverse_timer_item_int_timer_item_int
namespace slices_rotateLeft_timer_item_int
abbrev id : Nat := 52
theorem at_ : FnAt Try.prog 52 Try.f52 := ⟨Try.func52, by kernel_rfl⟩
noncomputable def c0 : Code := (Try.f52.body).getD .skip
noncomputable def c1 : Code := match c0 with | .seq x _ => x | _ => .skip
noncomputable def c2 : Code := match c0 with | .seq _ x => x | _ => .skip
noncomputable def c3 : Code := match c2 with | .seq x _ => x | _ => .skip
noncomputable def c4 : Code := match c2 with | .seq _ x => x | _ => .skip
theorem e0 : c0 = .seq c1 c2 := by kernel_rfl
noncomputable def r1 : Array Oper := match c1 with | .region _ x _ => x | _ => #[]
theorem e1 : c1 = .region 0 r1 false := by kernel_rfl
theorem e2 : c2 = .seq c3 c4 := by kernel_rfl
noncomputable def r3 : Array Oper := match c3 with | .region _ x _ => x | _ => #[]
theorem e3 : c3 = .region 1 r3 false := by kernel_rfl
noncomputable def r4 : Array Oper := match c4 with | .region _ x _ => x | _ => #[]
theorem e4 : c4 = .region 2 r4 false := by kernel_rfl
theorem body : Try.f52.body = some c0 := by kernel_rfl
section
variable {base : Nat} {W0 : World} {β0 : Bt}
def f (k : Nat) (x0 : Sl) (x1 : Int) (S : HS) : Option ((Unit) × HS) :=
  (Option.bind (HS.cut S x0 0 x1 2) fun p1 =>
  (Option.bind (slices_Reverse_timer_item_int_timer_item_int.f k p1 S) fun p2 =>
  (Option.bind (HS.cut p2.2 x0 x1 (Sl.len x0 : Int) 2) fun p3 =>
  (Option.bind (slices_Reverse_timer_item_int_timer_item_int.f k p3 p2.2) fun p4 =>
  (Option.bind (slices_Reverse_timer_item_int_timer_item_int.f k x0 p4.2) fun p5 =>
  some ((), p5.2))))))
theorem snd {k : Nat} {x0 : Sl} {x1 : Int} {S : HS}  {p : (Unit) × HS} (h : f k x0 x1 S = some p) : HCall Try.prog base W0 β0 52 [(Sl.hv x0), (.int .i64 x1)] S (fun v S1 => v = (.tup []) ∧ S1 = p.2) := by
  unfold f at h
  refine HCall.of_run at_.at_ body ?_
  show HRun Try.prog base W0 β0 52 none [.code c0] ⟨[(Sl.hv x0), (.int .i64 x1), .tup [], .tup [], .tup [], .tup [], .tup [], .tup [], .tup [], .tup [], .tup [], .tup [], .tup [], .tup []], []⟩ S _
  refine q_seq e0 ?_
  refine q_region e1 rfl ?_
  refine q_op (dst := some 4) rfl (fun _ ho => ok_move ho (.tmp rfl)) ?_
  refine q_op (dst := some 5) rfl (fun _ ho => ok_move ho (.tmp rfl)) ?_
  obtain ⟨p1, hp1, h⟩ := bindo h
  refine q_op (dst := some 6) rfl (fun _ ho => ok_slice (kl := .i64) (kh := .i64) (s := x0) (l := 0) (h := x1) ho tu72 si78 (.tmp rfl) (.inl ⟨rfl, rfl⟩) (.inr ⟨_, rfl, (.tmp rfl)⟩) hp1) ?_
  obtain ⟨p2, hp2, h⟩ := bindo h
  refine q_call (dst := some 7) rfl (.func _) (.cons (.tmp rfl) Evs.nil) (HInv.static slices_Reverse_timer_item_int_timer_item_int.at_ slices_Reverse_timer_item_int_timer_item_int.body (slices_Reverse_timer_item_int_timer_item_int.snd  hp2)) ?_
  rintro _ _ ⟨rfl, rfl⟩
  refine hr_region_end ?_
  try dsimp only [HAct.put, List.set_cons_zero, List.set_cons_succ]
  refine q_seq e2 ?_
  refine q_region e3 rfl ?_
  refine q_op (dst := some 8) rfl (fun _ ho => ok_move ho (.tmp rfl)) ?_
  refine q_op (dst := some 9) rfl (fun _ ho => ok_move ho (.tmp rfl)) ?_
  obtain ⟨p3, hp3, h⟩ := bindo h
  refine q_op (dst := some 10) rfl (fun _ ho => ok_slice (kl := .i64) (kh := .i64) (s := x0) (l := x1) (h := (Sl.len x0 : Int)) ho tu72 si78 (.tmp rfl) (.inr ⟨_, rfl, (.tmp rfl)⟩) (.inl ⟨rfl, rfl⟩) hp3) ?_
  obtain ⟨p4, hp4, h⟩ := bindo h
  refine q_call (dst := some 11) rfl (.func _) (.cons (.tmp rfl) Evs.nil) (HInv.static slices_Reverse_timer_item_int_timer_item_int.at_ slices_Reverse_timer_item_int_timer_item_int.body (slices_Reverse_timer_item_int_timer_item_int.snd  hp4)) ?_
  rintro _ _ ⟨rfl, rfl⟩
  refine hr_region_end ?_
  try dsimp only [HAct.put, List.set_cons_zero, List.set_cons_succ]
  refine q_region e4 rfl ?_
  refine q_op (dst := some 12) rfl (fun _ ho => ok_move ho (.tmp rfl)) ?_
  obtain ⟨p5, hp5, h⟩ := bindo h
  refine q_call (dst := some 13) rfl (.func _) (.cons (.tmp rfl) Evs.nil) (HInv.static slices_Reverse_timer_item_int_timer_item_int.at_ slices_Reverse_timer_item_int_timer_item_int.body (slices_Reverse_timer_item_int_timer_item_int.snd  hp5)) ?_
  rintro _ _ ⟨rfl, rfl⟩
  refine hr_region_end ?_
  try dsimp only [HAct.put, List.set_cons_zero, List.set_cons_succ]
  cases h
  exact q_end at_.at_ rfl (res0 rfl) ⟨rfl, rfl⟩
end
end slices_rotateLeft_timer_item_int
namespace slices_rotateRight_timer_item_int
abbrev id : Nat := 46
theorem at_ : FnAt Try.prog 46 Try.f46 := ⟨Try.func46, by kernel_rfl⟩
noncomputable def c0 : Code := (Try.f46.body).getD .skip
noncomputable def r0 : Array Oper := match c0 with | .region _ x _ => x | _ => #[]
theorem e0 : c0 = .region 0 r0 false := by kernel_rfl
theorem body : Try.f46.body = some c0 := by kernel_rfl
section
variable {base : Nat} {W0 : World} {β0 : Bt}
def f (k : Nat) (x0 : Sl) (x1 : Int) (S : HS) : Option ((Unit) × HS) :=
  (Option.bind (slices_rotateLeft_timer_item_int.f k x0 (w64 ((Sl.len x0 : Int) - x1)) S) fun p1 =>
  some ((), p1.2))
theorem snd {k : Nat} {x0 : Sl} {x1 : Int} {S : HS}  {p : (Unit) × HS} (h : f k x0 x1 S = some p) : HCall Try.prog base W0 β0 46 [(Sl.hv x0), (.int .i64 x1)] S (fun v S1 => v = (.tup []) ∧ S1 = p.2) := by
  unfold f at h
  refine HCall.of_run at_.at_ body ?_
  show HRun Try.prog base W0 β0 46 none [.code c0] ⟨[(Sl.hv x0), (.int .i64 x1), .tup [], .tup [], .tup [], .tup [], .tup [], .tup [], .tup [], .tup []], []⟩ S _
  refine q_region e0 rfl ?_
  refine q_op (dst := some 4) rfl (fun _ ho => ok_move ho (.tmp rfl)) ?_
  refine q_op (dst := some 5) rfl (fun _ ho => ok_move ho (.tmp rfl)) ?_
  refine q_op (dst := some 6) rfl (fun _ ho => ok_len_sl (q := Sl.a x0) (n := Sl.len x0) (z := Sl.cap x0) ho rfl tu72 (.tmp rfl)) ?_
  refine q_op (dst := some 7) rfl (fun _ ho => ok_move ho (.tmp rfl)) ?_
  try dsimp only [HAct.put, List.set_cons_zero, List.set_cons_succ]
  refine q_op (dst := some 8) rfl (fun _ ho => ok_ibin ho (.tmp rfl) (.tmp rfl) rfl) ?_
  obtain ⟨p1, hp1, h⟩ := bindo h
  refine q_call (dst := some 9) rfl (.func _) (.cons (.tmp rfl) (.cons (.tmp rfl) Evs.nil)) (HInv.static slices_rotateLeft_timer_item_int.at_ slices_rotateLeft_timer_item_int.body (slices_rotateLeft_timer_item_int.snd  hp1)) ?_
  rintro _ _ ⟨rfl, rfl⟩
  refine hr_region_end ?_
  try dsimp only [HAct.put, List.set_cons_zero, List.set_cons_succ]
  cases h
  exact q_end at_.at_ rfl (res0 rfl) ⟨rfl, rfl⟩
end
end slices_rotateRight_timer_item_int
namespace slices_Insert_timer_item_int_timer_item_int
abbrev id : Nat := 34
theorem at_ : FnAt Try.prog 34 Try.f34 := ⟨Try.func34, by kernel_rfl⟩
noncomputable def c0 : Code := (Try.f34.body).getD .skip
noncomputable def c1 : Code := match c0 with | .seq x _ => x | _ => .skip
noncomputable def c2 : Code := match c0 with | .seq _ x => x | _ => .skip
noncomputable def c3 : Code := match c2 with | .seq x _ => x | _ => .skip
noncomputable def c4 : Code := match c2 with | .seq _ x => x | _ => .skip
noncomputable def c5 : Code := match c4 with | .seq x _ => x | _ => .skip
noncomputable def c6 : Code := match c4 with | .seq _ x => x | _ => .skip
noncomputable def c7 : Code := match c6 with | .seq x _ => x | _ => .skip
noncomputable def c8 : Code := match c7 with | .seq x _ => x | _ => .skip
noncomputable def c9 : Code := match c7 with | .seq _ x => x | _ => .skip
noncomputable def c10 : Code := match c9 with | .cond _ x _ => x | _ => .skip
noncomputable def c11 : Code := match c10 with | .seq x _ => x | _ => .skip
noncomputable def c12 : Code := match c10 with | .seq _ x => x | _ => .skip
noncomputable def c13 : Code := match c9 with | .cond _ _ x => x | _ => .skip
noncomputable def c14 : Code := match c6 with | .seq _ x => x | _ => .skip
noncomputable def c15 : Code := match c14 with | .seq x _ => x | _ => .skip
noncomputable def c16 : Code := match c14 with | .seq _ x => x | _ => .skip
noncomputable def c17 : Code := match c16 with | .seq x _ => x | _ => .skip
noncomputable def c18 : Code := match c17 with | .seq x _ => x | _ => .skip
noncomputable def c19 : Code := match c17 with | .seq _ x => x | _ => .skip
noncomputable def c20 : Code := match c19 with | .cond _ x _ => x | _ => .skip
noncomputable def c21 : Code := match c20 with | .seq x _ => x | _ => .skip
noncomputable def c22 : Code := match c20 with | .seq _ x => x | _ => .skip
noncomputable def c23 : Code := match c19 with | .cond _ _ x => x | _ => .skip
noncomputable def c24 : Code := match c16 with | .seq _ x => x | _ => .skip
noncomputable def c25 : Code := match c24 with | .seq x _ => x | _ => .skip
noncomputable def c26 : Code := match c25 with | .seq x _ => x | _ => .skip
noncomputable def c27 : Code := match c25 with | .seq _ x => x | _ => .skip
noncomputable def c28 : Code := match c27 with | .cond _ x _ => x | _ => .skip
noncomputable def c29 : Code := match c28 with | .seq x _ => x | _ => .skip
noncomputable def c30 : Code := match c28 with | .seq _ x => x | _ => .skip
noncomputable def c31 : Code := match c30 with | .seq x _ => x | _ => .skip
noncomputable def c32 : Code := match c30 with | .seq _ x => x | _ => .skip
noncomputable def c33 : Code := match c32 with | .seq x _ => x | _ => .skip
noncomputable def c34 : Code := match c32 with | .seq _ x => x | _ => .skip
noncomputable def c35 : Code := match c34 with | .seq x _ => x | _ => .skip
noncomputable def c36 : Code := match c34 with | .seq _ x => x | _ => .skip
noncomputable def c37 : Code := match c27 with | .cond _ _ x => x | _ => .skip
noncomputable def c38 : Code := match c24 with | .seq _ x => x | _ => .skip
noncomputable def c39 : Code := match c38 with | .seq x _ => x | _ => .skip
noncomputable def c40 : Code := match c38 with | .seq _ x => x | _ => .skip
noncomputable def c41 : Code := match c40 with | .seq x _ => x | _ => .skip
noncomputable def c42 : Code := match c41 with | .seq x _ => x | _ => .skip
noncomputable def c43 : Code := match c41 with | .seq _ x => x | _ => .skip
noncomputable def c44 : Code := match c43 with | .cond _ x _ => x | _ => .skip
noncomputable def c45 : Code := match c44 with | .seq x _ => x | _ => .skip
noncomputable def c46 : Code := match c44 with | .seq _ x => x | _ => .skip
noncomputable def c47 : Code := match c46 with | .seq x _ => x | _ => .skip
noncomputable def c48 : Code := match c46 with | .seq _ x => x | _ => .skip
noncomputable def c49 : Code := match c48 with | .seq x _ => x | _ => .skip
noncomputable def c50 : Code := match c48 with | .seq _ x => x | _ => .skip
noncomputable def c51 : Code := match c43 with | .cond _ _ x => x | _ => .skip
noncomputable def c52 : Code := match c40 with | .seq _ x => x | _ => .skip
noncomputable def c53 : Code := match c52 with | .seq x _ => x | _ => .skip
noncomputable def c54 : Code := match c52 with | .seq _ x => x | _ => .skip
noncomputable def c55 : Code := match c54 with | .seq x _ => x | _ => .skip
noncomputable def c56 : Code := match c54 with | .seq _ x => x | _ => .skip
noncomputable def c57 : Code := match c56 with | .seq x _ => x | _ => .skip
noncomputable def c58 : Code := match c56 with | .seq _ x => x | _ => .skip
theorem e0 : c0 = .seq c1 c2 := by kernel_rfl
noncomputable def r1 : Array Oper := match c1 with | .region _ x _ => x | _ => #[]
theorem e1 : c1 = .region 0 r1 false := by kernel_rfl
theorem e2 : c2 = .seq c3 c4 := by kernel_rfl
noncomputable def r3 : Array Oper := match c3 with | .region _ x _ => x | _ => #[]
theorem e3 : c3 = .region 1 r3 false := by kernel_rfl
theorem e4 : c4 = .seq c5 c6 := by kernel_rfl
noncomputable def r5 : Array Oper := match c5 with | .region _ x _ => x | _ => #[]
theorem e5 : c5 = .region 2 r5 false := by kernel_rfl
theorem e6 : c6 = .seq c7 c14 := by kernel_rfl
theorem e7 : c7 = .seq c8 c9 := by kernel_rfl
noncomputable def r8 : Array Oper := match c8 with | .region _ x _ => x | _ => #[]
theorem e8 : c8 = .region 3 r8 false := by kernel_rfl
theorem e9 : c9 = .cond (.tmp 16) c10 c13 := by kernel_rfl
theorem e10 : c10 = .seq c11 c12 := by kernel_rfl
noncomputable def r11 : Array Oper := match c11 with | .region _ x _ => x | _ => #[]
theorem e11 : c11 = .region 4 r11 false := by kernel_rfl
theorem e12 : c12 = .ret := by kernel_rfl
theorem e13 : c13 = .skip := by kernel_rfl
theorem e14 : c14 = .seq c15 c16 := by kernel_rfl
noncomputable def r15 : Array Oper := match c15 with | .region _ x _ => x | _ => #[]
theorem e15 : c15 = .region 5 r15 false := by kernel_rfl
theorem e16 : c16 = .seq c17 c24 := by kernel_rfl
theorem e17 : c17 = .seq c18 c19 := by kernel_rfl
noncomputable def r18 : Array Oper := match c18 with | .region _ x _ => x | _ => #[]
theorem e18 : c18 = .region 6 r18 false := by kernel_rfl
theorem e19 : c19 = .cond (.tmp 22) c20 c23 := by kernel_rfl
theorem e20 : c20 = .seq c21 c22 := by kernel_rfl
noncomputable def r21 : Array Oper := match c21 with | .region _ x _ => x | _ => #[]
theorem e21 : c21 = .region 7 r21 false := by kernel_rfl
theorem e22 : c22 = .ret := by kernel_rfl
theorem e23 : c23 = .skip := by kernel_rfl
theorem e24 : c24 = .seq c25 c38 := by kernel_rfl
theorem e25 : c25 = .seq c26 c27 := by kernel_rfl
noncomputable def r26 : Array Oper := match c26 with | .region _ x _ => x | _ => #[]
theorem e26 : c26 = .region 8 r26 false := by kernel_rfl
theorem e27 : c27 = .cond (.tmp 31) c28 c37 := by kernel_rfl
theorem e28 : c28 = .seq c29 c30 := by kernel_rfl
noncomputable def r29 : Array Oper := match c29 with | .region _ x _ => x | _ => #[]
theorem e29 : c29 = .region 9 r29 false := by kernel_rfl
theorem e30 : c30 = .seq c31 c32 := by kernel_rfl
noncomputable def r31 : Array Oper := match c31 with | .region _ x _ => x | _ => #[]
theorem e31 : c31 = .region 10 r31 false := by kernel_rfl
theorem e32 : c32 = .seq c33 c34 := by kernel_rfl
noncomputable def r33 : Array Oper := match c33 with | .region _ x _ => x | _ => #[]
theorem e33 : c33 = .region 11 r33 true := by kernel_rfl
theorem e34 : c34 = .seq c35 c36 := by kernel_rfl
noncomputable def r35 : Array Oper := match c35 with | .region _ x _ => x | _ => #[]
theorem e35 : c35 = .region 12 r35 false := by kernel_rfl
theorem e36 : c36 = .ret := by kernel_rfl
theorem e37 : c37 = .skip := by kernel_rfl
theorem e38 : c38 = .seq c39 c40 := by kernel_rfl
noncomputable def r39 : Array Oper := match c39 with | .region _ x _ => x | _ => #[]
theorem e39 : c39 = .region 13 r39 false := by kernel_rfl
theorem e40 : c40 = .seq c41 c52 := by kernel_rfl
theorem e41 : c41 = .seq c42 c43 := by kernel_rfl
noncomputable def r42 : Array Oper := match c42 with | .region _ x _ => x | _ => #[]
theorem e42 : c42 = .region 14 r42 false := by kernel_rfl
theorem e43 : c43 = .cond (.tmp 68) c44 c51 := by kernel_rfl
theorem e44 : c44 = .seq c45 c46 := by kernel_rfl
noncomputable def r45 : Array Oper := match c45 with | .region _ x _ => x | _ => #[]
theorem e45 : c45 = .region 15 r45 true := by kernel_rfl
theorem e46 : c46 = .seq c47 c48 := by kernel_rfl
noncomputable def r47 : Array Oper := match c47 with | .region _ x _ => x | _ => #[]
theorem e47 : c47 = .region 16 r47 false := by kernel_rfl
theorem e48 : c48 = .seq c49 c50 := by kernel_rfl
noncomputable def r49 : Array Oper := match c49 with | .region _ x _ => x | _ => #[]
theorem e49 : c49 = .region 17 r49 false := by kernel_rfl
theorem e50 : c50 = .ret := by kernel_rfl
theorem e51 : c51 = .skip := by kernel_rfl
theorem e52 : c52 = .seq c53 c54 := by kernel_rfl
noncomputable def r53 : Array Oper := match c53 with | .region _ x _ => x | _ => #[]
theorem e53 : c53 = .region 18 r53 false := by kernel_rfl
theorem e54 : c54 = .seq c55 c56 := by kernel_rfl
noncomputable def r55 : Array Oper := match c55 with | .region _ x _ => x | _ => #[]
theorem e55 : c55 = .region 19 r55 false := by kernel_rfl
theorem e56 : c56 = .seq c57 c58 := by kernel_rfl
noncomputable def r57 : Array Oper := match c57 with | .region _ x _ => x | _ => #[]
theorem e57 : c57 = .region 20 r57 false := by kernel_rfl
theorem e58 : c58 = .ret := by kernel_rfl
theorem body : Try.f34.body = some c0 := by kernel_rfl
section
variable {base : Nat} {W0 : World} {β0 : Bt}
def f (k : Nat) (x0 : Sl) (x1 : Int) (x2 : Sl) (S : HS) : Option ((Sl) × HS) :=
  (Option.bind (HS.cut S x0 x1 (Sl.len x0 : Int) 2) fun p1 =>
  (if (Sl.len x2 : Int) = 0 then
  some (x0, S) else
  (if x1 = (Sl.len x0 : Int) then
  (Option.bind (HS.rows S x2 2) fun p4 =>
  (Option.bind (HS.app S x0 p4 2) fun p5 =>
  some ((p5.1), (p5.2)))) else
  (Option.bind (Sl.capOf x0) fun p6 =>
  (if (w64 ((Sl.len x0 : Int) + (Sl.len x2 : Int))) > p6 then
  (Option.bind (HS.cut S x0 0 x1 2) fun p8 =>
  (Option.bind (HS.appZ S p8 (w64 ((w64 ((Sl.len x0 : Int) + (Sl.len x2 : Int))) - x1)) [(.int .i64 0), (.int .i64 0)] 2) fun p9 =>
  (Option.bind (HS.cut (p9.2) (p9.1) x1 (Sl.len (p9.1) : Int) 2) fun p10 =>
  (Option.bind (HS.rows (p9.2) x2 2) fun p11 =>
  (Option.bind (HS.over (p9.2) p10 (List.take (Sl.len p10) p11) 2) fun p12 =>
  (Option.bind (HS.cut p12 (p9.1) (w64 (x1 + (Sl.len x2 : Int))) (Sl.len (p9.1) : Int) 2) fun p13 =>
  (Option.bind (HS.cut p12 x0 x1 (Sl.len x0 : Int) 2) fun p14 =>
  (Option.bind (HS.rows p12 p14 2) fun p15 =>
  (Option.bind (HS.over p12 p13 (List.take (Sl.len p13) p15) 2) fun p16 =>
  some ((p9.1), p16)))))))))) else
  (Option.bind (HS.cut S x0 0 (w64 ((Sl.len x0 : Int) + (Sl.len x2 : Int))) 2) fun p17 =>
  (Option.bind (HS.cut S p17 (w64 (x1 + (Sl.len x2 : Int))) (Sl.len p17 : Int) 2) fun p18 =>
  (Option.bind (HS.ovl S x2 p18) fun p19 =>
  (if (!p19) = true then
  (Option.bind (HS.cut S p17 (w64 (x1 + (Sl.len x2 : Int))) (Sl.len p17 : Int) 2) fun p21 =>
  (Option.bind (HS.cut S p17 x1 (Sl.len p17 : Int) 2) fun p22 =>
  (Option.bind (HS.rows S p22 2) fun p23 =>
  (Option.bind (HS.over S p21 (List.take (Sl.len p21) p23) 2) fun p24 =>
  (Option.bind (HS.cut p24 p17 x1 (Sl.len p17 : Int) 2) fun p25 =>
  (Option.bind (HS.rows p24 x2 2) fun p26 =>
  (Option.bind (HS.over p24 p25 (List.take (Sl.len p25) p26) 2) fun p27 =>
  some (p17, p27)))))))) else
  (Option.bind (HS.cut S p17 (Sl.len x0 : Int) (Sl.len p17 : Int) 2) fun p28 =>
  (Option.bind (HS.rows S x2 2) fun p29 =>
  (Option.bind (HS.over S p28 (List.take (Sl.len p28) p29) 2) fun p30 =>
  (Option.bind (HS.cut p30 p17 x1 (Sl.len p17 : Int) 2) fun p31 =>
  (Option.bind (slices_rotateRight_timer_item_int.f k p31 (Sl.len x2 : Int) p30) fun p32 =>
  some (p17, p32.2)))))))))))))))
theorem snd {k : Nat} {x0 : Sl} {x1 : Int} {x2 : Sl} {S : HS}  {p : (Sl) × HS} (h : f k x0 x1 x2 S = some p) : HCall Try.prog base W0 β0 34 [(Sl.hv x0), (.int .i64 x1), (Sl.hv x2)] S (fun v S1 => v = (Sl.hv p.1) ∧ S1 = p.2) := by
  unfold f at h
  refine HCall.of_run at_.at_ body ?_
  show HRun Try.prog base W0 β0 34 none [.code c0] ⟨[(Sl.hv x0), (.int .i64 x1), (Sl.hv x2), .tup [], .tup [], .tup [], .tup [], .tup [], .tup [], .tup [], .tup [], .tup [], .tup [], .tup [], .tup [], .tup [], .tup [], .tup [], .tup [], .tup [], .tup [], .tup [], .tup [], .tup [], .tup [], .tup [], .tup [], .tup [], .tup [], .tup [], .tup [], .tup [], .tup [], .tup [], .tup [], .tup [], .tup [], .tup [], .tup [], .tup [], .tup [], .tup [], .tup [], .tup [], .tup [], .tup [], .tup [], .tup [], .tup [], .tup [], .tup [], .tup [], .tup [], .tup [], .tup [], .tup [], .tup [], .tup [], .tup [], .tup [], .tup [], .tup [], .tup [], .tup [], .tup [], .tup [], .tup [], .tup [], .tup [], .tup [], .tup [], .tup [], .tup [], .tup [], .tup [], .tup [], .tup [], .tup [], .tup [], .tup [], .tup [], .tup [], .tup [], .tup [], .tup [], .tup [], .tup [], .tup [], .tup [], .tup [], .tup [], .tup [], .tup [], .tup [], .tup []], []⟩ S _
  refine q_seq e0 ?_
  refine q_region e1 rfl ?_
  refine q_op (dst := some 6) rfl (fun _ ho => ok_assign ho (.const fun _ => .slNil none)) ?_
  refine hr_region_end ?_
  try dsimp only [HAct.put, List.set_cons_zero, List.set_cons_succ]
  refine q_seq e2 ?_
  refine q_region e3 rfl ?_
  refine q_op (dst := some 10) rfl (fun _ ho => ok_move ho (.tmp rfl)) ?_
  refine q_op (dst := some 11) rfl (fun _ ho => ok_move ho (.tmp rfl)) ?_
  obtain ⟨p1, hp1, h⟩ := bindo h
  refine q_op (dst := some 12) rfl (fun _ ho => ok_slice (kl := .i64) (kh := .i64) (s := x0) (l := x1) (h := (Sl.len x0 : Int)) ho tu72 si78 (.tmp rfl) (.inr ⟨_, rfl, (.tmp rfl)⟩) (.inl ⟨rfl, rfl⟩) hp1) ?_
  refine hr_region_end ?_
  try dsimp only [HAct.put, List.set_cons_zero, List.set_cons_succ]
  refine q_seq e4 ?_
  refine q_region e5 rfl ?_
  refine q_op (dst := some 13) rfl (fun _ ho => ok_move ho (.tmp rfl)) ?_
  refine q_op (dst := some 14) rfl (fun _ ho => ok_len_sl (q := Sl.a x2) (n := Sl.len x2) (z := Sl.cap x2) ho rfl tu72 (.tmp rfl)) ?_
  refine q_op (dst := some 7) rfl (fun _ ho => ok_assign ho (.tmp rfl)) ?_
  refine hr_region_end ?_
  try dsimp only [HAct.put, List.set_cons_zero, List.set_cons_succ]
  refine q_seq e6 ?_
  refine q_seq e7 ?_
  refine q_region e8 rfl ?_
  refine q_op (dst := some 15) rfl (fun _ ho => ok_move ho (.tmp rfl)) ?_
  refine q_op (dst := some 16) rfl (fun _ ho => ok_ibin ho (.tmp rfl) (.int _ _) rfl) ?_
  refine hr_region_end ?_
  try dsimp only [HAct.put, List.set_cons_zero, List.set_cons_succ]
  rcases ifc h with ⟨hc2, h⟩ | ⟨hc2, h⟩
  · refine q_cond_t e9 (.tmp rfl) (decide_eq_true hc2) ?_
    refine q_seq e10 ?_
    refine q_region e11 rfl ?_
    refine q_op (dst := some 17) rfl (fun _ ho => ok_move ho (.tmp rfl)) ?_
    refine q_op (dst := some 6) rfl (fun _ ho => ok_assign ho (.tmp rfl)) ?_
    refine hr_region_end ?_
    try dsimp only [HAct.put, List.set_cons_zero, List.set_cons_succ]
    cases h
    exact q_ret e12 at_.at_ rfl (res1 rfl rfl) ⟨rfl, rfl⟩
  · refine q_cond_f e9 (.tmp rfl) (decide_eq_false hc2) ?_
    refine q_skipc e13 ?_
    refine q_seq e14 ?_
    refine q_region e15 rfl ?_
    refine q_op (dst := some 18) rfl (fun _ ho => ok_move ho (.tmp rfl)) ?_
    refine q_op (dst := some 19) rfl (fun _ ho => ok_len_sl (q := Sl.a x0) (n := Sl.len x0) (z := Sl.cap x0) ho rfl tu72 (.tmp rfl)) ?_
    refine q_op (dst := some 8) rfl (fun _ ho => ok_assign ho (.tmp rfl)) ?_
    refine hr_region_end ?_
    try dsimp only [HAct.put, List.set_cons_zero, List.set_cons_succ]
    refine q_seq e16 ?_
    refine q_seq e17 ?_
    refine q_region e18 rfl ?_
    refine q_op (dst := some 20) rfl (fun _ ho => ok_move ho (.tmp rfl)) ?_
    refine q_op (dst := some 21) rfl (fun _ ho => ok_move ho (.tmp rfl)) ?_
    refine q_op (dst := some 22) rfl (fun _ ho => ok_ibin ho (.tmp rfl) (.tmp rfl) rfl) ?_
    refine hr_region_end ?_
    try dsimp only [HAct.put, List.set_cons_zero, List.set_cons_succ]
    rcases ifc h with ⟨hc3, h⟩ | ⟨hc3, h⟩
    · refine q_cond_t e19 (.tmp rfl) (decide_eq_true hc3) ?_
      refine q_seq e20 ?_
      refine q_region e21 rfl ?_
      refine q_op (dst := some 23) rfl (fun _ ho => ok_move ho (.tmp rfl)) ?_
      refine q_op (dst := some 24) rfl (fun _ ho => ok_move ho (.tmp rfl)) ?_
      obtain ⟨p4, hp4, h⟩ := bindo h
      obtain ⟨p5, hp5, h⟩ := bindo h
      refine q_op (dst := some 25) rfl (fun _ ho => ok_append (s := x0) (s1 := x2) el72 ho rfl rfl ⟨_, tu72⟩ (.tmp rfl) (.tmp rfl) hp4 hp5) ?_
      refine q_op (dst := some 6) rfl (fun _ ho => ok_assign ho (.tmp rfl)) ?_
      refine hr_region_end ?_
      try dsimp only [HAct.put, List.set_cons_zero, List.set_cons_succ]
      cases h
      exact q_ret e22 at_.at_ rfl (res1 rfl rfl) ⟨rfl, rfl⟩
    · refine q_cond_f e19 (.tmp rfl) (decide_eq_false hc3) ?_
      refine q_skipc e23 ?_
      refine q_seq e24 ?_
      refine q_seq e25 ?_
      refine q_region e26 rfl ?_
      refine q_op (dst := some 26) rfl (fun _ ho => ok_move ho (.tmp rfl)) ?_
      refine q_op (dst := some 27) rfl (fun _ ho => ok_move ho (.tmp rfl)) ?_
      refine q_op (dst := some 28) rfl (fun _ ho => ok_ibin ho (.tmp rfl) (.tmp rfl) rfl) ?_
      refine q_op (dst := some 29) rfl (fun _ ho => ok_move ho (.tmp rfl)) ?_
      try dsimp only [HAct.put, List.set_cons_zero, List.set_cons_succ]
      obtain ⟨p6, hp6, h⟩ := bindo h
      refine q_op (dst := some 30) rfl (fun _ ho => ok_cap (s := x0) ho rfl tu72 (.tmp rfl) hp6) ?_
      refine q_op (dst := some 31) rfl (fun _ ho => ok_ibin ho (.tmp rfl) (.tmp rfl) rfl) ?_
      refine hr_region_end ?_
      try dsimp only [HAct.put, List.set_cons_zero, List.set_cons_succ]
      rcases ifc h with ⟨hc7, h⟩ | ⟨hc7, h⟩
      · refine q_cond_t e27 (.tmp rfl) (decide_eq_true hc7) ?_
        refine q_seq e28 ?_
        refine q_region e29 rfl ?_
        refine q_op (dst := some 32) rfl (fun _ ho => ok_move ho (.tmp rfl)) ?_
        refine q_op (dst := some 33) rfl (fun _ ho => ok_move ho (.tmp rfl)) ?_
        obtain ⟨p8, hp8, h⟩ := bindo h
        refine q_op (dst := some 34) rfl (fun _ ho => ok_slice (kl := .i64) (kh := .i64) (s := x0) (l := 0) (h := x1) ho tu72 si78 (.tmp rfl) (.inl ⟨rfl, rfl⟩) (.inr ⟨_, rfl, (.tmp rfl)⟩) hp8) ?_
        refine q_op (dst := some 35) rfl (fun _ ho => ok_move ho (.tmp rfl)) ?_
        try dsimp only [HAct.put, List.set_cons_zero, List.set_cons_succ]
        refine q_op (dst := some 36) rfl (fun _ ho => ok_move ho (.tmp rfl)) ?_
        refine q_op (dst := some 37) rfl (fun _ ho => ok_ibin ho (.tmp rfl) (.tmp rfl) rfl) ?_
        refine q_op (dst := some 38) rfl (fun _ ho => ok_move ho (.tmp rfl)) ?_
        refine q_op (dst := some 39) rfl (fun _ ho => ok_ibin ho (.tmp rfl) (.tmp rfl) rfl) ?_
        try dsimp only [HAct.put, List.set_cons_zero, List.set_cons_succ]
        obtain ⟨p9, hp9, h⟩ := bindo h
        refine q_op (dst := some 40) rfl (fun _ ho => ok_append_zeros (s := p8) el72 ho rfl rfl tu3 (.tmp rfl) (.tmp rfl) hp9) ?_
        refine q_op (dst := some 9) rfl (fun _ ho => ok_assign ho (.tmp rfl)) ?_
        refine hr_region_end ?_
        try dsimp only [HAct.put, List.set_cons_zero, List.set_cons_succ]
        refine q_seq e30 ?_
        refine q_region e31 rfl ?_
        refine q_op (dst := some 41) rfl (fun _ ho => ok_move ho (.tmp rfl)) ?_
        refine q_op (dst := some 42) rfl (fun _ ho => ok_move ho (.tmp rfl)) ?_
        obtain ⟨p10, hp10, h⟩ := bindo h
        refine q_op (dst := some 43) rfl (fun _ ho => ok_slice (kl := .i64) (kh := .i64) (s := (p9.1)) (l := x1) (h := (Sl.len (p9.1) : Int)) ho tu72 si78 (.tmp rfl) (.inr ⟨_, rfl, (.tmp rfl)⟩) (.inl ⟨rfl, rfl⟩) hp10) ?_
        refine q_op (dst := some 44) rfl (fun _ ho => ok_move ho (.tmp rfl)) ?_
        try dsimp only [HAct.put, List.set_cons_zero, List.set_cons_succ]
        obtain ⟨p11, hp11, h⟩ := bindo h
        obtain ⟨p12, hp12, h⟩ := bindo h
        refine q_op (dst := some 45) rfl (fun _ ho => ok_copy (s := p10) (s1 := x2) el72 ho rfl (.tmp rfl) (.tmp rfl) hp11 hp12) ?_
        refine hr_region_end ?_
        try dsimp only [HAct.put, List.set_cons_zero, List.set_cons_succ]
        refine q_seq e32 ?_
        refine x_start (cls := [0, 0, 0, 0, 1, 0, 0, 1, 2]) (rk := [0, 1, 2, 3, 4, 5, 6, 7, 8]) e33 (by kernel_rfl) ?_
        refine x_go (f_op (dst := some 46) (ts := [9]) rfl (by intro _ _ h; cases h) (by kernel_rfl) (fun _ _ ho => ok_move ho (.tmp rfl))) rfl ?_
        refine x_go (f_op (dst := some 47) (ts := [1]) rfl (by intro _ _ h; cases h) (by kernel_rfl) (fun _ _ ho => ok_move ho (.tmp rfl))) rfl ?_
        refine x_go (f_op (dst := some 48) (ts := [7]) rfl (by intro _ _ h; cases h) (by kernel_rfl) (fun _ _ ho => ok_move ho (.tmp rfl))) rfl ?_
        refine x_go (f_op (dst := some 49) (ts := [47, 48]) rfl (by intro _ _ h; cases h) (by kernel_rfl) (fun _ _ ho => ok_ibin ho (.tmp rfl) (.tmp rfl) rfl)) rfl ?_
        try dsimp only [HAct.put, List.set_cons_zero, List.set_cons_succ]
        obtain ⟨p13, hp13, h⟩ := bindo h
        refine x_go (r_op (dst := some 50) (ts := [46, 49]) rfl (by intro _ _ h; cases h) (by kernel_rfl) (fun _ ho => ok_slice (kl := .i64) (kh := .i64) (s := (p9.1)) (l := (w64 (x1 + (Sl.len x2 : Int)))) (h := (Sl.len (p9.1) : Int)) ho tu72 si78 (.tmp rfl) (.inr ⟨_, rfl, (.tmp rfl)⟩) (.inl ⟨rfl, rfl⟩) hp13)) rfl ?_
        refine x_go (f_op (dst := some 51) (ts := [0]) rfl (by intro _ _ h; cases h) (by kernel_rfl) (fun _ _ ho => ok_move ho (.tmp rfl))) rfl ?_
        refine x_go (f_op (dst := some 52) (ts := [1]) rfl (by intro _ _ h; cases h) (by kernel_rfl) (fun _ _ ho => ok_move ho (.tmp rfl))) rfl ?_
        obtain ⟨p14, hp14, h⟩ := bindo h
        refine x_go (r_op (dst := some 53) (ts := [51, 52]) rfl (by intro _ _ h; cases h) (by kernel_rfl) (fun _ ho => ok_slice (kl := .i64) (kh := .i64) (s := x0) (l := x1) (h := (Sl.len x0 : Int)) ho tu72 si78 (.tmp rfl) (.inr ⟨_, rfl, (.tmp rfl)⟩) (.inl ⟨rfl, rfl⟩) hp14)) rfl ?_
        try dsimp only [HAct.put, List.set_cons_zero, List.set_cons_succ]
        obtain ⟨p15, hp15, h⟩ := bindo h
        obtain ⟨p16, hp16, h⟩ := bindo h
        refine x_go (e_op (dst := some 54) (ts := [50, 53]) rfl (by intro _ _ h; cases h) (by kernel_rfl) (fun _ ho => ok_copy (s := p13) (s1 := p14) el72 ho rfl (.tmp rfl) (.tmp rfl) hp15 hp16)) rfl ?_
        refine x_rest rfl ?_
        refine hr_region_end ?_
        try dsimp only [HAct.put, List.set_cons_zero, List.set_cons_succ]
        refine q_seq e34 ?_
        refine q_region e35 rfl ?_
        refine q_op (dst := some 55) rfl (fun _ ho => ok_move ho (.tmp rfl)) ?_
        refine q_op (dst := some 6) rfl (fun _ ho => ok_assign ho (.tmp rfl)) ?_
        refine hr_region_end ?_
        try dsimp only [HAct.put, List.set_cons_zero, List.set_cons_succ]
        cases h
        exact q_ret e36 at_.at_ rfl (res1 rfl rfl) ⟨rfl, rfl⟩
      · refine q_cond_f e27 (.tmp rfl) (decide_eq_false hc7) ?_
        refine q_skipc e37 ?_
        refine q_seq e38 ?_
        refine q_region e39 rfl ?_
        refine q_op (dst := some 56) rfl (fun _ ho => ok_move ho (.tmp rfl)) ?_
        refine q_op (dst := some 57) rfl (fun _ ho => ok_move ho (.tmp rfl)) ?_
        refine q_op (dst := some 58) rfl (fun _ ho => ok_move ho (.tmp rfl)) ?_
        refine q_op (dst := some 59) rfl (fun _ ho => ok_ibin ho (.tmp rfl) (.tmp rfl) rfl) ?_
        try dsimp only [HAct.put, List.set_cons_zero, List.set_cons_succ]
        obtain ⟨p17, hp17, h⟩ := bindo h
        refine q_op (dst := some 60) rfl (fun _ ho => ok_slice (kl := .i64) (kh := .i64) (s := x0) (l := 0) (h := (w64 ((Sl.len x0 : Int) + (Sl.len x2 : Int)))) ho tu72 si78 (.tmp rfl) (.inl ⟨rfl, rfl⟩) (.inr ⟨_, rfl, (.tmp rfl)⟩) hp17) ?_
        refine q_op (dst := some 0) rfl (fun _ ho => ok_assign ho (.tmp rfl)) ?_
        refine hr_region_end ?_
        try dsimp only [HAct.put, List.set_cons_zero, List.set_cons_succ]
        refine q_seq e40 ?_
        refine q_seq e41 ?_
        refine q_region e42 rfl ?_
        refine q_op (dst := some 61) rfl (fun _ ho => ok_move ho (.tmp rfl)) ?_
        refine q_op (dst := some 62) rfl (fun _ ho => ok_move ho (.tmp rfl)) ?_
        refine q_op (dst := some 63) rfl (fun _ ho => ok_move ho (.tmp rfl)) ?_
        refine q_op (dst := some 64) rfl (fun _ ho => ok_move ho (.tmp rfl)) ?_
        try dsimp only [HAct.put, List.set_cons_zero, List.set_cons_succ]
        refine q_op (dst := some 65) rfl (fun _ ho => ok_ibin ho (.tmp rfl) (.tmp rfl) rfl) ?_
        obtain ⟨p18, hp18, h⟩ := bindo h
        refine q_op (dst := some 66) rfl (fun _ ho => ok_slice (kl := .i64) (kh := .i64) (s := p17) (l := (w64 (x1 + (Sl.len x2 : Int)))) (h := (Sl.len p17 : Int)) ho tu72 si78 (.tmp rfl) (.inr ⟨_, rfl, (.tmp rfl)⟩) (.inl ⟨rfl, rfl⟩) hp18) ?_
        obtain ⟨p19, hp19, h⟩ := bindo h
        refine q_op (dst := some 67) rfl (fun _ ho => ok_overlaps (s1 := x2) (s2 := p18) ho ext45 tu72 si78 (.tmp rfl) (.tmp rfl) hp19) ?_
        refine q_op (dst := some 68) rfl (fun _ ho => ok_not ho (.tmp rfl)) ?_
        refine hr_region_end ?_
        try dsimp only [HAct.put, List.set_cons_zero, List.set_cons_succ]
        rcases ifc h with ⟨hc20, h⟩ | ⟨hc20, h⟩
        · refine q_cond_t e43 (.tmp rfl) hc20 ?_
          refine q_seq e44 ?_
          refine x_start (cls := [0, 0, 0, 0, 1, 0, 0, 1, 2]) (rk := [0, 1, 2, 3, 4, 5, 6, 7, 8]) e45 (by kernel_rfl) ?_
          refine x_go (f_op (dst := some 69) (ts := [0]) rfl (by intro _ _ h; cases h) (by kernel_rfl) (fun _ _ ho => ok_move ho (.tmp rfl))) rfl ?_
          refine x_go (f_op (dst := some 70) (ts := [1]) rfl (by intro _ _ h; cases h) (by kernel_rfl) (fun _ _ ho => ok_move ho (.tmp rfl))) rfl ?_
          refine x_go (f_op (dst := some 71) (ts := [7]) rfl (by intro _ _ h; cases h) (by kernel_rfl) (fun _ _ ho => ok_move ho (.tmp rfl))) rfl ?_
          refine x_go (f_op (dst := some 72) (ts := [70, 71]) rfl (by intro _ _ h; cases h) (by kernel_rfl) (fun _ _ ho => ok_ibin ho (.tmp rfl) (.tmp rfl) rfl)) rfl ?_
          try dsimp only [HAct.put, List.set_cons_zero, List.set_cons_succ]
          obtain ⟨p21, hp21, h⟩ := bindo h
          refine x_go (r_op (dst := some 73) (ts := [69, 72]) rfl (by intro _ _ h; cases h) (by kernel_rfl) (fun _ ho => ok_slice (kl := .i64) (kh := .i64) (s := p17) (l := (w64 (x1 + (Sl.len x2 : Int)))) (h := (Sl.len p17 : Int)) ho tu72 si78 (.tmp rfl) (.inr ⟨_, rfl, (.tmp rfl)⟩) (.inl ⟨rfl, rfl⟩) hp21)) rfl ?_
          refine x_go (f_op (dst := some 74) (ts := [0]) rfl (by intro _ _ h; cases h) (by kernel_rfl) (fun _ _ ho => ok_move ho (.tmp rfl))) rfl ?_
          refine x_go (f_op (dst := some 75) (ts := [1]) rfl (by intro _ _ h; cases h) (by kernel_rfl) (fun _ _ ho => ok_move ho (.tmp rfl))) rfl ?_
          obtain ⟨p22, hp22, h⟩ := bindo h
          refine x_go (r_op (dst := some 76) (ts := [74, 75]) rfl (by intro _ _ h; cases h) (by kernel_rfl) (fun _ ho => ok_slice (kl := .i64) (kh := .i64) (s := p17) (l := x1) (h := (Sl.len p17 : Int)) ho tu72 si78 (.tmp rfl) (.inr ⟨_, rfl, (.tmp rfl)⟩) (.inl ⟨rfl, rfl⟩) hp22)) rfl ?_
          try dsimp only [HAct.put, List.set_cons_zero, List.set_cons_succ]
          obtain ⟨p23, hp23, h⟩ := bindo h
          obtain ⟨p24, hp24, h⟩ := bindo h
          refine x_go (e_op (dst := some 77) (ts := [73, 76]) rfl (by intro _ _ h; cases h) (by kernel_rfl) (fun _ ho => ok_copy (s := p21) (s1 := p22) el72 ho rfl (.tmp rfl) (.tmp rfl) hp23 hp24)) rfl ?_
          refine x_rest rfl ?_
          refine hr_region_end ?_
          try dsimp only [HAct.put, List.set_cons_zero, List.set_cons_succ]
          refine q_seq e46 ?_
          refine q_region e47 rfl ?_
          refine q_op (dst := some 78) rfl (fun _ ho => ok_move ho (.tmp rfl)) ?_
          refine q_op (dst := some 79) rfl (fun _ ho => ok_move ho (.tmp rfl)) ?_
          obtain ⟨p25, hp25, h⟩ := bindo h
          refine q_op (dst := some 80) rfl (fun _ ho => ok_slice (kl := .i64) (kh := .i64) (s := p17) (l := x1) (h := (Sl.len p17 : Int)) ho tu72 si78 (.tmp rfl) (.inr ⟨_, rfl, (.tmp rfl)⟩) (.inl ⟨rfl, rfl⟩) hp25) ?_
          refine q_op (dst := some 81) rfl (fun _ ho => ok_move ho (.tmp rfl)) ?_
          try dsimp only [HAct.put, List.set_cons_zero, List.set_cons_succ]
          obtain ⟨p26, hp26, h⟩ := bindo h
          obtain ⟨p27, hp27, h⟩ := bindo h
          refine q_op (dst := some 82) rfl (fun _ ho => ok_copy (s := p25) (s1 := x2) el72 ho rfl (.tmp rfl) (.tmp rfl) hp26 hp27) ?_
          refine hr_region_end ?_
          try dsimp only [HAct.put, List.set_cons_zero, List.set_cons_succ]
          refine q_seq e48 ?_
          refine q_region e49 rfl ?_
          refine q_op (dst := some 83) rfl (fun _ ho => ok_move ho (.tmp rfl)) ?_
          refine q_op (dst := some 6) rfl (fun _ ho => ok_assign ho (.tmp rfl)) ?_
          refine hr_region_end ?_
          try dsimp only [HAct.put, List.set_cons_zero, List.set_cons_succ]
          cases h
          exact q_ret e50 at_.at_ rfl (res1 rfl rfl) ⟨rfl, rfl⟩
        · refine q_cond_f e43 (.tmp rfl) (bfalse hc20) ?_
          refine q_skipc e51 ?_
          refine q_seq e52 ?_
          refine q_region e53 rfl ?_
          refine q_op (dst := some 84) rfl (fun _ ho => ok_move ho (.tmp rfl)) ?_
          refine q_op (dst := some 85) rfl (fun _ ho => ok_move ho (.tmp rfl)) ?_
          obtain ⟨p28, hp28, h⟩ := bindo h
          refine q_op (dst := some 86) rfl (fun _ ho => ok_slice (kl := .i64) (kh := .i64) (s := p17) (l := (Sl.len x0 : Int)) (h := (Sl.len p17 : Int)) ho tu72 si78 (.tmp rfl) (.inr ⟨_, rfl, (.tmp rfl)⟩) (.inl ⟨rfl, rfl⟩) hp28) ?_
          refine q_op (dst := some 87) rfl (fun _ ho => ok_move ho (.tmp rfl)) ?_
          try dsimp only [HAct.put, List.set_cons_zero, List.set_cons_succ]
          obtain ⟨p29, hp29, h⟩ := bindo h
          obtain ⟨p30, hp30, h⟩ := bindo h
          refine q_op (dst := some 88) rfl (fun _ ho => ok_copy (s := p28) (s1 := x2) el72 ho rfl (.tmp rfl) (.tmp rfl) hp29 hp30) ?_
          refine hr_region_end ?_
          try dsimp only [HAct.put, List.set_cons_zero, List.set_cons_succ]
          refine q_seq e54 ?_
          refine q_region e55 rfl ?_
          refine q_op (dst := some 89) rfl (fun _ ho => ok_move ho (.tmp rfl)) ?_
          refine q_op (dst := some 90) rfl (fun _ ho => ok_move ho (.tmp rfl)) ?_
          obtain ⟨p31, hp31, h⟩ := bindo h
          refine q_op (dst := some 91) rfl (fun _ ho => ok_slice (kl := .i64) (kh := .i64) (s := p17) (l := x1) (h := (Sl.len p17 : Int)) ho tu72 si78 (.tmp rfl) (.inr ⟨_, rfl, (.tmp rfl)⟩) (.inl ⟨rfl, rfl⟩) hp31) ?_
          refine q_op (dst := some 92) rfl (fun _ ho => ok_move ho (.tmp rfl)) ?_
          try dsimp only [HAct.put, List.set_cons_zero, List.set_cons_succ]
          obtain ⟨p32, hp32, h⟩ := bindo h
          refine q_call (dst := some 93) rfl (.func _) (.cons (.tmp rfl) (.cons (.tmp rfl) Evs.nil)) (HInv.static slices_rotateRight_timer_item_int.at_ slices_rotateRight_timer_item_int.body (slices_rotateRight_timer_item_int.snd  hp32)) ?_
          rintro _ _ ⟨rfl, rfl⟩
          refine hr_region_end ?_
          try dsimp only [HAct.put, List.set_cons_zero, List.set_cons_succ]
          refine q_seq e56 ?_
          refine q_region e57 rfl ?_
          refine q_op (dst := some 94) rfl (fun _ ho => ok_move ho (.tmp rfl)) ?_
          refine q_op (dst := some 6) rfl (fun _ ho => ok_assign ho (.tmp rfl)) ?_
          refine hr_region_end ?_
          try dsimp only [HAct.put, List.set_cons_zero, List.set_cons_succ]
          cases h
          exact q_ret e58 at_.at_ rfl (res1 rfl rfl) ⟨rfl, rfl⟩
end
end slices_Insert_timer_item_int_timer_item_int
namespace slices_Insert_timer_item_int_timer_item_int_w
theorem at_ : FnAt Try.prog 34 Try.f34 := slices_Insert_timer_item_int_timer_item_int.at_
theorem body : Try.f34.body = some slices_Insert_timer_item_int_timer_item_int.c0 := slices_Insert_timer_item_int_timer_item_int.body
def f (x0 : Sl) (x1 : Int) (x2 : Sl) (S : HS) : Option ((Sl) × HS) := HS.ins S x0 x1 x2 2
theorem snd {base : Nat} {W0 : World} {β0 : Bt} {x0 : Sl} {x1 : Int} {x2 : Sl} {S : HS} {p : (Sl) × HS} (h : f x0 x1 x2 S = some p) : HCall Try.prog base W0 β0 34 [(Sl.hv x0), (.int .i64 x1), (Sl.hv x2)] S (fun v S1 => v = (Sl.hv p.1) ∧ S1 = p.2) :=
  ins_snd (rot := fun a b T => slices_rotateRight_timer_item_int.f 0 a b T) (zr := [(.int .i64 0), (.int .i64 0)]) (fun _ _ _ h => slices_Insert_timer_item_int_timer_item_int.snd (k := 0) h) h
end slices_Insert_timer_item_int_timer_item_int_w
namespace timer_Table_int_Set
abbrev id : Nat := 21
theorem at_ : FnAt Try.prog 21 Try.f21 := ⟨Try.func21, by kernel_rfl⟩
noncomputable def c0 : Code := (Try.f21.body).getD .skip
noncomputable def c1 : Code := match c0 with | .seq x _ => x | _ => .skip
noncomputable def c2 : Code := match c1 with | .seq x _ => x | _ => .skip
noncomputable def c3 : Code := match c1 with | .seq _ x => x | _ => .skip
noncomputable def c4 : Code := match c3 with | .cond _ x _ => x | _ => .skip
noncomputable def c5 : Code := match c3 with | .cond _ _ x => x | _ => .skip
noncomputable def c6 : Code := match c0 with | .seq _ x => x | _ => .skip
noncomputable def c7 : Code := match c6 with | .seq x _ => x | _ => .skip
noncomputable def c8 : Code := match c6 with | .seq _ x => x | _ => .skip
noncomputable def c9 : Code := match c8 with | .seq x _ => x | _ => .skip
noncomputable def c10 : Code := match c8 with | .seq _ x => x | _ => .skip
noncomputable def c11 : Code := match c10 with | .seq x _ => x | _ => .skip
noncomputable def c12 : Code := match c10 with | .seq _ x => x | _ => .skip
theorem e0 : c0 = .seq c1 c6 := by kernel_rfl
theorem e1 : c1 = .seq c2 c3 := by kernel_rfl
noncomputable def r2 : Array Oper := match c2 with | .region _ x _ => x | _ => #[]
theorem e2 : c2 = .region 0 r2 false := by kernel_rfl
theorem e3 : c3 = .cond (.tmp 9) c4 c5 := by kernel_rfl
theorem e4 : c4 = .ret := by kernel_rfl
theorem e5 : c5 = .skip := by kernel_rfl
theorem e6 : c6 = .seq c7 c8 := by kernel_rfl
noncomputable def r7 : Array Oper := match c7 with | .region _ x _ => x | _ => #[]
theorem e7 : c7 = .region 1 r7 false := by kernel_rfl
theorem e8 : c8 = .seq c9 c10 := by kernel_rfl
noncomputable def r9 : Array Oper := match c9 with | .region _ x _ => x | _ => #[]
theorem e9 : c9 = .region 2 r9 false := by kernel_rfl
theorem e10 : c10 = .seq c11 c12 := by kernel_rfl
noncomputable def r11 : Array Oper := match c11 with | .region _ x _ => x | _ => #[]
theorem e11 : c11 = .region 3 r11 false := by kernel_rfl
noncomputable def r12 : Array Oper := match c12 with | .region _ x _ => x | _ => #[]
theorem e12 : c12 = .region 4 r12 false := by kernel_rfl
theorem body : Try.f21.body = some c0 := by kernel_rfl
section
variable {base : Nat} {W0 : World} {β0 : Bt}
def f (D : Dp) (H : Hd) (k : Nat) (x0 : (Option HA)) (x1 : Int) (x2 : Int) (S : HS) : Option ((Unit) × HS) :=
  (if (Option.isNone x0) = true then
  some ((), S) else
  (Option.bind (timer_Table_int_Stop.f D H k x0 x1 S) fun p2 =>
  (Option.bind (x0) fun p3 =>
  (Option.bind (HS.ldSl p2.2 (HA.fld p3 0)) fun p4 =>
  (Option.bind (slices_BinarySearchFunc_timer_item_int_timer_item_int_timer_item_int.f D H k p4 x1 x2 (HV.fn (.func 33) [] []) p2.2) fun p5 =>
  (Option.bind (x0) fun p6 =>
  (Option.bind (HS.ldSl p5.2 (HA.fld p6 0)) fun p7 =>
  (letv (HS.lit p5.2 [[(.int .i64 x1), (.int .i64 x2)]] 2) fun p8 =>
  (Option.bind (slices_Insert_timer_item_int_timer_item_int_w.f p7 p5.1.1 (p8.1) (p8.2)) fun p9 =>
  (Option.bind (x0) fun p10 =>
  (Option.bind (HS.sets p9.2 (HA.fld p10 0) [(Sl.hv p9.1)]) fun p11 =>
  (Option.bind (x0) fun p12 =>
  (Option.bind (HS.ldM p11 (HA.fld p12 1)) fun p13 =>
  (Option.bind (HS.mput p11 p13 (.int .i64 x1) (.int .i64 x2)) fun p14 =>
  some ((), p14)))))))))))))))
theorem snd {D : Dp} {H : Hd} {k : Nat} {x0 : (Option HA)} {x1 : Int} {x2 : Int} {S : HS} (hD : DSound Try.prog base W0 D) (hH : HSound Try.prog base W0 β0 H)  {p : (Unit) × HS} (h : f D H k x0 x1 x2 S = some p) : HCall Try.prog base W0 β0 21 [(.ptr x0), (.int .i64 x1), (.int .i64 x2)] S (fun v S1 => v = (.tup []) ∧ S1 = p.2) := by
  unfold f at h
  refine HCall.of_run at_.at_ body ?_
  show HRun Try.prog base W0 β0 21 none [.code c0] ⟨[(.ptr x0), (.int .i64 x1), (.int .i64 x2), .tup [], .tup [], .tup [], .tup [], .tup [], .tup [], .tup [], .tup [], .tup [], .tup [], .tup [], .tup [], .tup [], .tup [], .tup [], .tup [], .tup [], .tup [], .tup [], .tup [], .tup [], .tup [], .tup [], .tup [], .tup [], .tup [], .tup [], .tup [], .tup [], .tup [], .tup [], .tup [], .tup [], .tup [], .tup [], .tup [], .tup [], .tup [], .tup [], .tup []], []⟩ S _
  refine q_seq e0 ?_
  refine q_seq e1 ?_
  refine q_region e2 rfl ?_
  refine q_op (dst := some 8) rfl (fun _ ho => ok_move ho (.tmp rfl)) ?_
  refine q_op (dst := some 9) rfl (fun _ ho => ok_nil_ptr ho tu49 (.tmp rfl) (.inl ⟨rfl, rfl⟩)) ?_
  refine hr_region_end ?_
  try dsimp only [HAct.put, List.set_cons_zero, List.set_cons_succ]
  rcases ifc h with ⟨hc1, h⟩ | ⟨hc1, h⟩
  · refine q_cond_t e3 (.tmp rfl) hc1 ?_
    cases h
    exact q_ret e4 at_.at_ rfl (res0 rfl) ⟨rfl, rfl⟩
  · refine q_cond_f e3 (.tmp rfl) (bfalse hc1) ?_
    refine q_skipc e5 ?_
    refine q_seq e6 ?_
    refine q_region e7 rfl ?_
    refine q_op (dst := some 10) rfl (fun _ ho => ok_move ho (.tmp rfl)) ?_
    refine q_op (dst := some 11) rfl (fun _ ho => ok_move ho (.tmp rfl)) ?_
    obtain ⟨p2, hp2, h⟩ := bindo h
    refine q_call (dst := some 12) rfl (.func _) (.cons (.tmp rfl) (.cons (.tmp rfl) Evs.nil)) (HInv.static timer_Table_int_Stop.at_ timer_Table_int_Stop.body (timer_Table_int_Stop.snd hD hH hp2)) ?_
    rintro _ _ ⟨rfl, rfl⟩
    refine hr_region_end ?_
    try dsimp only [HAct.put, List.set_cons_zero, List.set_cons_succ]
    refine q_seq e8 ?_
    refine q_region e9 rfl ?_
    refine q_op (dst := some 14) rfl (fun _ ho => ok_move ho (.tmp rfl)) ?_
    obtain ⟨p3, hp3, h⟩ := bindo h
    refine q_op (dst := some 15) rfl (fun _ ho => ok_nilCheck_p ho (.tmp rfl) hp3) ?_
    refine q_op (dst := some 16) rfl (fun _ ho => ok_fieldAddr_s ho fi74_0 (by decide) (.tmp rfl) rfl) ?_
    obtain ⟨p4, hp4, h⟩ := bindo h
    refine q_op (dst := some 17) rfl (fun _ ho => ok_load_s ho sc72 (.tmp rfl) rfl (ldSl_out hp4)) ?_
    try dsimp only [HAct.put, List.set_cons_zero, List.set_cons_succ]
    refine q_op (dst := some 18) rfl (fun _ ho => ok_move ho (.tmp rfl)) ?_
    refine q_op (dst := some 19) rfl (fun _ ho => ok_move ho (.tmp rfl)) ?_
    refine q_op (dst := some 20) rfl (fun _ ho => ok_build (is := [0, 1]) (xs := [(.tmp 18), (.tmp 19)]) (r := [(.int .i64 x1), (.int .i64 x2)]) st78 ho rfl rfl (.cons (.tmp rfl) (.cons (.tmp rfl) Evs.nil)) rfl) ?_
    obtain ⟨p5, hp5, h⟩ := bindo h
    refine q_call (dst := some 21) rfl (.func _) (.cons (.tmp rfl) (.cons (.tmp rfl) (.cons (.func _) Evs.nil))) (HInv.static slices_BinarySearchFunc_timer_item_int_timer_item_int_timer_item_int.at_ slices_BinarySearchFunc_timer_item_int_timer_item_int_timer_item_int.body (slices_BinarySearchFunc_timer_item_int_timer_item_int_timer_item_int.snd hD hH hp5)) ?_
    rintro _ _ ⟨rfl, rfl⟩
    try dsimp only [HAct.put, List.set_cons_zero, List.set_cons_succ]
    refine q_op (dst := some 13) rfl (fun _ ho => ok_move ho (.tmp rfl)) ?_
    refine q_op (dst := some 22) rfl (fun _ ho => ok_extract ho (.tmp rfl) rfl) ?_
    refine q_op (dst := some 23) rfl (fun _ ho => ok_extract ho (.tmp rfl) rfl) ?_
    refine q_op (dst := some 6) rfl (fun _ ho => ok_assign ho (.tmp rfl)) ?_
    try dsimp only [HAct.put, List.set_cons_zero, List.set_cons_succ]
    refine q_op (dst := some 7) rfl (fun _ ho => ok_assign ho (.tmp rfl)) ?_
    refine hr_region_end ?_
    try dsimp only [HAct.put, List.set_cons_zero, List.set_cons_succ]
    refine q_seq e10 ?_
    refine q_region e11 rfl ?_
    refine q_op (dst := some 24) rfl (fun _ ho => ok_move ho (.tmp rfl)) ?_
    refine q_op (dst := some 25) rfl (fun _ ho => ok_move ho (.tmp rfl)) ?_
    obtain ⟨p6, hp6, h⟩ := bindo h
    refine q_op (dst := some 26) rfl (fun _ ho => ok_nilCheck_p ho (.tmp rfl) hp6) ?_
    refine q_op (dst := some 27) rfl (fun _ ho => ok_fieldAddr_s ho fi74_0 (by decide) (.tmp rfl) rfl) ?_
    try dsimp only [HAct.put, List.set_cons_zero, List.set_cons_succ]
    obtain ⟨p7, hp7, h⟩ := bindo h
    refine q_op (dst := some 28) rfl (fun _ ho => ok_load_s ho sc72 (.tmp rfl) rfl (ldSl_out hp7)) ?_
    refine q_op (dst := some 29) rfl (fun _ ho => ok_move ho (.tmp rfl)) ?_
    refine q_op (dst := some 30) rfl (fun _ ho => ok_move ho (.tmp rfl)) ?_
    refine q_op (dst := some 31) rfl (fun _ ho => ok_move ho (.tmp rfl)) ?_
    try dsimp only [HAct.put, List.set_cons_zero, List.set_cons_succ]
    refine q_op (dst := some 32) rfl (fun _ ho => ok_build (is := [0, 1]) (xs := [(.tmp 30), (.tmp 31)]) (r := [(.int .i64 x1), (.int .i64 x2)]) st78 ho rfl rfl (.cons (.tmp rfl) (.cons (.tmp rfl) Evs.nil)) rfl) ?_
    obtain ⟨p8, hp8, h⟩ := leto h
    refine q_op (dst := some 33) rfl (fun _ ho => ok_buildSlice_s (xs := [(.tmp 32)]) el72 ho rfl rfl (by decide) (.cons (.tmp rfl) Evs.nil) rfl rfl hp8) ?_
    obtain ⟨p9, hp9, h⟩ := bindo h
    refine q_call (dst := some 34) rfl (.func _) (.cons (.tmp rfl) (.cons (.tmp rfl) (.cons (.tmp rfl) Evs.nil))) (HInv.static slices_Insert_timer_item_int_timer_item_int_w.at_ slices_Insert_timer_item_int_timer_item_int_w.body (slices_Insert_timer_item_int_timer_item_int_w.snd  hp9)) ?_
    rintro _ _ ⟨rfl, rfl⟩
    obtain ⟨p10, hp10, h⟩ := bindo h
    refine q_op (dst := some 35) rfl (fun _ ho => ok_nilCheck_p ho (.tmp rfl) hp10) ?_
    try dsimp only [HAct.put, List.set_cons_zero, List.set_cons_succ]
    refine q_op (dst := some 36) rfl (fun _ ho => ok_fieldAddr_s ho fi74_0 (by decide) (.tmp rfl) rfl) ?_
    obtain ⟨p11, hp11, h⟩ := bindo h
    refine q_op (dst := none) rfl (fun _ ho => ok_store_s (v := (Sl.hv p9.1)) ho sz72 (.tmp rfl) rfl (.tmp rfl) rfl hp11) ?_
    refine hr_region_end ?_
    try dsimp only [HAct.put, List.set_cons_zero, List.set_cons_succ]
    refine q_region e12 rfl ?_
    refine q_op (dst := some 37) rfl (fun _ ho => ok_move ho (.tmp rfl)) ?_
    obtain ⟨p12, hp12, h⟩ := bindo h
    refine q_op (dst := some 38) rfl (fun _ ho => ok_nilCheck_p ho (.tmp rfl) hp12) ?_
    refine q_op (dst := some 39) rfl (fun _ ho => ok_fieldAddr_s ho fi74_1 (by decide) (.tmp rfl) rfl) ?_
    obtain ⟨p13, hp13, h⟩ := bindo h
    refine q_op (dst := some 40) rfl (fun _ ho => ok_load_s ho sc71 (.tmp rfl) rfl (ldM_out hp13)) ?_
    try dsimp only [HAct.put, List.set_cons_zero, List.set_cons_succ]
    refine q_op (dst := some 41) rfl (fun _ ho => ok_move ho (.tmp rfl)) ?_
    refine q_op (dst := some 42) rfl (fun _ ho => ok_move ho (.tmp rfl)) ?_
    obtain ⟨p14, hp14, h⟩ := bindo h
    refine q_op (dst := none) rfl (fun _ ho => ok_mapUpdate ho tu71 (keyInt tu3) (.tmp rfl) (.tmp rfl) (.tmp rfl) hp14) ?_
    refine hr_region_end ?_
    try dsimp only [HAct.put, List.set_cons_zero, List.set_cons_succ]
    cases h
    exact q_end at_.at_ rfl (res0 rfl) ⟨rfl, rfl⟩
end
end timer_Table_int_Set
namespace slices_Clone_timer_item_int_timer_item_int
abbrev id : Nat := 47
theorem at_ : FnAt Try.prog 47 Try.f47 := ⟨Try.func47, by kernel_rfl⟩
noncomputable def c0 : Code := (Try.f47.body).getD .skip
noncomputable def c1 : Code := match c0 with | .seq x _ => x | _ => .skip
noncomputable def c2 : Code := match c0 with | .seq _ x => x | _ => .skip
noncomputable def c3 : Code := match c2 with | .seq x _ => x | _ => .skip
noncomputable def c4 : Code := match c3 with | .seq x _ => x | _ => .skip
noncomputable def c5 : Code := match c3 with | .seq _ x => x | _ => .skip
noncomputable def c6 : Code := match c5 with | .cond _ x _ => x | _ => .skip
noncomputable def c7 : Code := match c6 with | .seq x _ => x | _ => .skip
noncomputable def c8 : Code := match c6 with | .seq _ x => x | _ => .skip
noncomputable def c9 : Code := match c5 with | .cond _ _ x => x | _ => .skip
noncomputable def c10 : Code := match c2 with | .seq _ x => x | _ => .skip
noncomputable def c11 : Code := match c10 with | .seq x _ => x | _ => .skip
noncomputable def c12 : Code := match c10 with | .seq _ x => x | _ => .skip
theorem e0 : c0 = .seq c1 c2 := by kernel_rfl
noncomputable def r1 : Array Oper := match c1 with | .region _ x _ => x | _ => #[]
theorem e1 : c1 = .region 0 r1 false := by kernel_rfl
theorem e2 : c2 = .seq c3 c10 := by kernel_rfl
theorem e3 : c3 = .seq c4 c5 := by kernel_rfl
noncomputable def r4 : Array Oper := match c4 with | .region _ x _ => x | _ => #[]
theorem e4 : c4 = .region 1 r4 false := by kernel_rfl
theorem e5 : c5 = .cond (.tmp 4) c6 c9 := by kernel_rfl
theorem e6 : c6 = .seq c7 c8 := by kernel_rfl
noncomputable def r7 : Array Oper := match c7 with | .region _ x _ => x | _ => #[]
theorem e7 : c7 = .region 2 r7 false := by kernel_rfl
theorem e8 : c8 = .ret := by kernel_rfl
theorem e9 : c9 = .skip := by kernel_rfl
theorem e10 : c10 = .seq c11 c12 := by kernel_rfl
noncomputable def r11 : Array Oper := match c11 with | .region _ x _ => x | _ => #[]
theorem e11 : c11 = .region 3 r11 false := by kernel_rfl
theorem e12 : c12 = .ret := by kernel_rfl
theorem body : Try.f47.body = some c0 := by kernel_rfl
section
variable {base : Nat} {W0 : World} {β0 : Bt}
def f (x0 : Sl) (S : HS) : Option ((Sl) × HS) :=
  (if (Option.isNone (Sl.a x0)) = true then
  some (Sl.nil, S) else
  (letv (HS.lit S [] 2) fun p2 =>
  (Option.bind (HS.rows (p2.2) x0 2) fun p3 =>
  (Option.bind (HS.app (p2.2) (p2.1) p3 2) fun p4 =>
  some ((p4.1), (p4.2))))))
theorem snd {x0 : Sl} {S : HS}  {p : (Sl) × HS} (h : f x0 S = some p) : HCall Try.prog base W0 β0 47 [(Sl.hv x0)] S (fun v S1 => v = (Sl.hv p.1) ∧ S1 = p.2) := by
  unfold f at h
  refine HCall.of_run at_.at_ body ?_
  show HRun Try.prog base W0 β0 47 none [.code c0] ⟨[(Sl.hv x0), .tup [], .tup [], .tup [], .tup [], .tup [], .tup [], .tup []], []⟩ S _
  refine q_seq e0 ?_
  refine q_region e1 rfl ?_
  refine q_op (dst := some 2) rfl (fun _ ho => ok_assign ho (.const fun _ => .slNil none)) ?_
  refine hr_region_end ?_
  try dsimp only [HAct.put, List.set_cons_zero, List.set_cons_succ]
  refine q_seq e2 ?_
  refine q_seq e3 ?_
  refine q_region e4 rfl ?_
  refine q_op (dst := some 3) rfl (fun _ ho => ok_move ho (.tmp rfl)) ?_
  refine q_op (dst := some 4) rfl (fun _ ho => ok_nil_sl ho tu72 (.tmp rfl) (.inl ⟨rfl, rfl⟩)) ?_
  refine hr_region_end ?_
  try dsimp only [HAct.put, List.set_cons_zero, List.set_cons_succ]
  rcases ifc h with ⟨hc1, h⟩ | ⟨hc1, h⟩
  · refine q_cond_t e5 (.tmp rfl) hc1 ?_
    refine q_seq e6 ?_
    refine q_region e7 rfl ?_
    refine q_op (dst := some 2) rfl (fun _ ho => ok_assign ho (.const fun _ => .slNil none)) ?_
    refine hr_region_end ?_
    try dsimp only [HAct.put, List.set_cons_zero, List.set_cons_succ]
    cases h
    exact q_ret e8 at_.at_ rfl (res1 rfl rfl) ⟨rfl, rfl⟩
  · refine q_cond_f e5 (.tmp rfl) (bfalse hc1) ?_
    refine q_skipc e9 ?_
    refine q_seq e10 ?_
    refine q_region e11 rfl ?_
    obtain ⟨p2, hp2, h⟩ := leto h
    refine q_op (dst := some 5) rfl (fun _ ho => ok_buildSlice_s (xs := []) el72 ho rfl rfl (by decide) Evs.nil rfl rfl hp2) ?_
    refine q_op (dst := some 6) rfl (fun _ ho => ok_move ho (.tmp rfl)) ?_
    obtain ⟨p3, hp3, h⟩ := bindo h
    obtain ⟨p4, hp4, h⟩ := bindo h
    refine q_op (dst := some 7) rfl (fun _ ho => ok_append (s := (p2.1)) (s1 := x0) el72 ho rfl rfl ⟨_, tu72⟩ (.tmp rfl) (.tmp rfl) hp3 hp4) ?_
    refine q_op (dst := some 2) rfl (fun _ ho => ok_assign ho (.tmp rfl)) ?_
    refine hr_region_end ?_
    try dsimp only [HAct.put, List.set_cons_zero, List.set_cons_succ]
    cases h
    exact q_ret e12 at_.at_ rfl (res1 rfl rfl) ⟨rfl, rfl⟩
end
end slices_Clone_timer_item_int_timer_item_int
namespace timer_Table_int_Due_1
abbrev id : Nat := 48
theorem at_ : FnAt Try.prog 48 Try.f48 := ⟨Try.func48, by kernel_rfl⟩
noncomputable def c0 : Code := (Try.f48.body).getD .skip
noncomputable def c1 : Code := match c0 with | .seq x _ => x | _ => .skip
noncomputable def c2 : Code := match c0 with | .seq _ x => x | _ => .skip
noncomputable def c3 : Code := match c2 with | .block _ x => x | _ => .skip
noncomputable def c4 : Code := match c3 with | .loop x => x | _ => .skip
noncomputable def c5 : Code := match c4 with | .seq x _ => x | _ => .skip
noncomputable def c6 : Code := match c4 with | .seq _ x => x | _ => .skip
noncomputable def c7 : Code := match c6 with | .seq x _ => x | _ => .skip
noncomputable def c8 : Code := match c7 with | .cond _ x _ => x | _ => .skip
noncomputable def c9 : Code := match c7 with | .cond _ _ x => x | _ => .skip
noncomputable def c10 : Code := match c6 with | .seq _ x => x | _ => .skip
noncomputable def c11 : Code := match c10 with | .seq x _ => x | _ => .skip
noncomputable def c12 : Code := match c11 with | .block _ x => x | _ => .skip
noncomputable def c13 : Code := match c12 with | .seq x _ => x | _ => .skip
noncomputable def c14 : Code := match c12 with | .seq _ x => x | _ => .skip
noncomputable def c15 : Code := match c14 with | .seq x _ => x | _ => .skip
noncomputable def c16 : Code := match c14 with | .seq _ x => x | _ => .skip
noncomputable def c17 : Code := match c16 with | .cond _ x _ => x | _ => .skip
noncomputable def c18 : Code := match c16 with | .cond _ _ x => x | _ => .skip
noncomputable def c19 : Code := match c10 with | .seq _ x => x | _ => .skip
theorem e0 : c0 = .seq c1 c2 := by kernel_rfl
noncomputable def r1 : Array Oper := match c1 with | .region _ x _ => x | _ => #[]
theorem e1 : c1 = .region 0 r1 false := by kernel_rfl
theorem e2 : c2 = .block 0 c3 := by kernel_rfl
theorem e3 : c3 = .loop c4 := by kernel_rfl
theorem e4 : c4 = .seq c5 c6 := by kernel_rfl
noncomputable def r5 : Array Oper := match c5 with | .region _ x _ => x | _ => #[]
theorem e5 : c5 = .region 1 r5 false := by kernel_rfl
theorem e6 : c6 = .seq c7 c10 := by kernel_rfl
theorem e7 : c7 = .cond (.tmp 8) c8 c9 := by kernel_rfl
theorem e8 : c8 = .skip := by kernel_rfl
theorem e9 : c9 = .exit 0 := by kernel_rfl
theorem e10 : c10 = .seq c11 c19 := by kernel_rfl
theorem e11 : c11 = .block 1 c12 := by kernel_rfl
theorem e12 : c12 = .seq c13 c14 := by kernel_rfl
noncomputable def r13 : Array Oper := match c13 with | .region _ x _ => x | _ => #[]
theorem e13 : c13 = .region 2 r13 false := by kernel_rfl
theorem e14 : c14 = .seq c15 c16 := by kernel_rfl
noncomputable def r15 : Array Oper := match c15 with | .region _ x _ => x | _ => #[]
theorem e15 : c15 = .region 3 r15 false := by kernel_rfl
theorem e16 : c16 = .cond (.tmp 17) c17 c18 := by kernel_rfl
theorem e17 : c17 = .ret := by kernel_rfl
theorem e18 : c18 = .skip := by kernel_rfl
noncomputable def r19 : Array Oper := match c19 with | .region _ x _ => x | _ => #[]
theorem e19 : c19 = .region 4 r19 false := by kernel_rfl
theorem body : Try.f48.body = some c0 := by kernel_rfl
section
variable {base : Nat} {W0 : World} {β0 : Bt}
def L0 (D : Dp) (H : Hd) (k : Nat) : Nat → HV → Sl → Int → Int → HS → Option ((Unit) × HS)
  | 0, _, _, _, _, _ => none
  | n + 1, y0, y5, y6, y7, S =>
    (if y7 < y6 then
    (Option.bind (HS.idx S y5 y7 2) fun p4 =>
    (Option.bind (HS.ldI S .i64 (HA.fld p4 0)) fun p5 =>
    (Option.bind (HS.ldI S .i64 (HA.fld p4 1)) fun p6 =>
    (letv (HS.new S (.cells 2 [[(.int .i64 0), (.int .i64 0)]] true)) fun p7 =>
    (Option.bind (HS.sets p7 (HA.cell0 S.next) [(.int .i64 p5), (.int .i64 p6)]) fun p8 =>
    (Option.bind (HS.ldI p8 .i64 (HA.fld (HA.cell0 S.next) 0)) fun p9 =>
    (Option.bind (HS.ldI p8 .i64 (HA.fld (HA.cell0 S.next) 1)) fun p10 =>
    (Option.bind (D H y0 [(.int .i64 p9), (.int .i64 p10)] p8) fun p11 =>
    (Option.bind (dB p11.1) fun p12 =>
    (if (!p12) = true then
    some ((), p11.2) else
    (L0 D H k n) y0 y5 y6 (w64 (y7 + 1)) p11.2)))))))))) else
    some ((), S))
theorem L0_snd {D : Dp} {H : Hd} {k : Nat} (hD : DSound Try.prog base W0 D) (hH : HSound Try.prog base W0 β0 H)  : ∀ {n : Nat} ⦃y0 : HV⦄ ⦃y5 : Sl⦄ ⦃y6 : Int⦄ ⦃y7 : Int⦄ ⦃S : HS⦄ ⦃p : (Unit) × HS⦄ ⦃g1 g2 g3 g4 g8 g9 g10 g11 g12 g13 g14 g15 g16 g17 g18 : HV⦄, L0 D H k n y0 y5 y6 y7 S = some p → HRun Try.prog base W0 β0 48 none [.inLoop c4, .inBlock 0] ⟨[y0, g1, g2, g3, g4, (Sl.hv y5), (.int .i64 y6), (.int .i64 y7), g8, g9, g10, g11, g12, g13, g14, g15, g16, g17, g18], []⟩ S (fun v S1 => v = (.tup []) ∧ S1 = p.2) := by
  intro n
  induction n with
  | zero => intro _ _ _ _ _ _ _ _ _ _ _ _ _ _ _ _ _ _ _ _ _ h; cases h
  | succ n ih =>
    intro y0 y5 y6 y7 S p g1 g2 g3 g4 g8 g9 g10 g11 g12 g13 g14 g15 g16 g17 g18 h
    simp only [L0] at h
    refine hr_inLoop ?_
    refine q_seq e4 ?_
    refine q_region e5 rfl ?_
    refine q_op (dst := some 8) rfl (fun _ ho => ok_ibin ho (.tmp rfl) (.tmp rfl) rfl) ?_
    refine hr_region_end ?_
    try dsimp only [HAct.put, List.set_cons_zero, List.set_cons_succ]
    refine q_seq e6 ?_
    rcases ifc h with ⟨hc3, h⟩ | ⟨hc3, h⟩
    · refine q_cond_t e7 (.tmp rfl) (decide_eq_true hc3) ?_
      refine q_skipc e8 ?_
      refine q_seq e10 ?_
      refine q_block e11 ?_
      refine q_seq e12 ?_
      refine q_region e13 rfl ?_
      obtain ⟨p4, hp4, h⟩ := bindo h
      refine q_op (dst := some 9) rfl (fun _ ho => ok_indexAddr (s := y5) ho tu72 sz78 (.tmp rfl) (.tmp rfl) hp4) ?_
      obtain ⟨p5, hp5, h⟩ := bindo h
      obtain ⟨p6, hp6, h⟩ := bindo h
      refine q_op (dst := some 10) rfl (fun _ ho => ok_load_a (vs := [(.int .i64 p5), (.int .i64 p6)]) ho ia78 (.tmp rfl) rfl ⟨ldI_out hp5, ldI_out hp6, trivial⟩ (by simp)) ?_
      obtain ⟨p7, hp7, h⟩ := leto h
      refine q_op (dst := some 4) rfl (fun _ ho => ok_alloc_e ho zi78 zr78 (by decide) rfl hp7) ?_
      obtain ⟨p8, hp8, h⟩ := bindo h
      refine q_op (dst := none) rfl (fun _ ho => ok_store_s (v := (.agg [(.int .i64 p5), (.int .i64 p6)])) ho sz78 (.tmp rfl) rfl (.tmp rfl) rfl hp8) ?_
      refine hr_region_end ?_
      try dsimp only [HAct.put, List.set_cons_zero, List.set_cons_succ]
      refine q_seq e14 ?_
      refine q_region e15 rfl ?_
      refine q_op (dst := some 11) rfl (fun _ ho => ok_move ho (.tmp rfl)) ?_
      refine q_op (dst := some 12) rfl (fun _ ho => ok_fieldAddr_s ho fi78_0 (by decide) (.tmp rfl) rfl) ?_
      obtain ⟨p9, hp9, h⟩ := bindo h
      refine q_op (dst := some 13) rfl (fun _ ho => ok_load_s ho sc3 (.tmp rfl) rfl (ldI_out hp9)) ?_
      refine q_op (dst := some 14) rfl (fun _ ho => ok_fieldAddr_s ho fi78_1 (by decide) (.tmp rfl) rfl) ?_
      try dsimp only [HAct.put, List.set_cons_zero, List.set_cons_succ]
      obtain ⟨p10, hp10, h⟩ := bindo h
      refine q_op (dst := some 15) rfl (fun _ ho => ok_load_s ho sc3 (.tmp rfl) rfl (ldI_out hp10)) ?_
      obtain ⟨p11, hp11, h⟩ := bindo h
      obtain ⟨p12, hp12, h⟩ := bindo h
      refine q_call (dst := some 16) rfl (.tmp rfl) (.cons (.tmp rfl) (.cons (.tmp rfl) Evs.nil)) (hD _ _ hH _ _ _ _ _ hp11) ?_
      rintro _ _ ⟨rfl, rfl⟩
      rw [dB_out hp12]
      refine q_op (dst := some 17) rfl (fun _ ho => ok_not ho (.tmp rfl)) ?_
      refine hr_region_end ?_
      try dsimp only [HAct.put, List.set_cons_zero, List.set_cons_succ]
      rcases ifc h with ⟨hc13, h⟩ | ⟨hc13, h⟩
      · refine q_cond_t e16 (.tmp rfl) hc13 ?_
        cases h
        exact q_ret e17 at_.at_ rfl (res0 rfl) ⟨rfl, rfl⟩
      · refine q_cond_f e16 (.tmp rfl) (bfalse hc13) ?_
        refine q_skipc e18 ?_
        refine hr_inBlock ?_
        refine q_region e19 rfl ?_
        refine q_op (dst := some 18) rfl (fun _ ho => ok_ibin ho (.tmp rfl) (.int _ _) rfl) ?_
        refine q_op (dst := some 7) rfl (fun _ ho => ok_move ho (.tmp rfl)) ?_
        refine hr_region_end ?_
        try dsimp only [HAct.put, List.set_cons_zero, List.set_cons_succ]
        try dsimp only [HAct.put, List.set_cons_zero, List.set_cons_succ]
        exact ih h
    · refine q_cond_f e7 (.tmp rfl) (decide_eq_false hc3) ?_
      refine q_exit e9 rfl ?_
      cases h
      exact q_end at_.at_ rfl (res0 rfl) ⟨rfl, rfl⟩
def f (D : Dp) (H : Hd) (k : Nat) (x0 : HV) (x1 : (Option HA)) (S : HS) : Option ((Unit) × HS) :=
  (Option.bind (x1) fun p1 =>
  (Option.bind (HS.ldSl S p1) fun p2 =>
  L0 D H k k x0 p2 (Sl.len p2 : Int) 0 S))
theorem snd {D : Dp} {H : Hd} {k : Nat} {x0 : HV} {x1 : (Option HA)} {S : HS} (hD : DSound Try.prog base W0 D) (hH : HSound Try.prog base W0 β0 H)  {p : (Unit) × HS} (h : f D H k x0 x1 S = some p) : HCall Try.prog base W0 β0 48 [x0, (.ptr x1)] S (fun v S1 => v = (.tup []) ∧ S1 = p.2) := by
  unfold f at h
  refine HCall.of_run at_.at_ body ?_
  show HRun Try.prog base W0 β0 48 none [.code c0] ⟨[x0, (.ptr x1), .tup [], .tup [], .tup [], .tup [], .tup [], .tup [], .tup [], .tup [], .tup [], .tup [], .tup [], .tup [], .tup [], .tup [], .tup [], .tup [], .tup []], []⟩ S _
  refine q_seq e0 ?_
  refine q_region e1 rfl ?_
  obtain ⟨p1, hp1, h⟩ := bindo h
  obtain ⟨p2, hp2, h⟩ := bindo h
  refine q_op (dst := some 5) rfl (fun _ ho => ok_load_s ho sc72 (.tmp rfl) hp1 (ldSl_out hp2)) ?_
  refine q_op (dst := some 6) rfl (fun _ ho => ok_len_sl (q := Sl.a p2) (n := Sl.len p2) (z := Sl.cap p2) ho rfl tu72 (.tmp rfl)) ?_
  refine q_op (dst := some 7) rfl (fun _ ho => ok_move ho (.int _ _)) ?_
  refine hr_region_end ?_
  try dsimp only [HAct.put, List.set_cons_zero, List.set_cons_succ]
  refine q_block e2 ?_
  refine q_loop e3 ?_
  try dsimp only [HAct.put, List.set_cons_zero, List.set_cons_succ]
  exact L0_snd hD hH h
end
end timer_Table_int_Due_1
end Go.Proofs.Ytlfdfkldolgkoaa.X
