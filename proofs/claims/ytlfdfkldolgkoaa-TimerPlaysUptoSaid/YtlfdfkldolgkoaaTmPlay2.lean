/- Functions of the program, each as a Lean function over the layer HL: a call answers what the Lean function answers, where it answers. -/
import Derived.Test.YtlfdfkldolgkoaaProg
import Derived.Test.YtlfdfkldolgkoaaTmPlay
namespace Go.Proofs.Ytlfdfkldolgkoaa.X
open Go.Proofs.Ytlfdfkldolgkoaa.HL
set_option linter.unusedVariables false
set_option linter.unusedSimpArgs false
set_option maxRecDepth 20000
set_option maxHeartbeats 4000000
namespace timer_Table_string_Due
abbrev id : Nat := 28
theorem at_ : FnAt Try.prog 28 Try.f28 := ⟨Try.func28, by kernel_rfl⟩
noncomputable def c0 : Code := (Try.f28.body).getD .skip
noncomputable def c1 : Code := match c0 with | .seq x _ => x | _ => .skip
noncomputable def c2 : Code := match c0 with | .seq _ x => x | _ => .skip
noncomputable def c3 : Code := match c2 with | .seq x _ => x | _ => .skip
noncomputable def c4 : Code := match c2 with | .seq _ x => x | _ => .skip
noncomputable def c5 : Code := match c4 with | .seq x _ => x | _ => .skip
noncomputable def c6 : Code := match c5 with | .seq x _ => x | _ => .skip
noncomputable def c7 : Code := match c5 with | .seq _ x => x | _ => .skip
noncomputable def c8 : Code := match c7 with | .cond _ x _ => x | _ => .skip
noncomputable def c9 : Code := match c8 with | .seq x _ => x | _ => .skip
noncomputable def c10 : Code := match c8 with | .seq _ x => x | _ => .skip
noncomputable def c11 : Code := match c10 with | .seq x _ => x | _ => .skip
noncomputable def c12 : Code := match c11 with | .block _ x => x | _ => .skip
noncomputable def c13 : Code := match c12 with | .loop x => x | _ => .skip
noncomputable def c14 : Code := match c13 with | .seq x _ => x | _ => .skip
noncomputable def c15 : Code := match c14 with | .seq x _ => x | _ => .skip
noncomputable def c16 : Code := match c14 with | .seq _ x => x | _ => .skip
noncomputable def c17 : Code := match c16 with | .cond _ x _ => x | _ => .skip
noncomputable def c18 : Code := match c16 with | .cond _ _ x => x | _ => .skip
noncomputable def c19 : Code := match c13 with | .seq _ x => x | _ => .skip
noncomputable def c20 : Code := match c19 with | .block _ x => x | _ => .skip
noncomputable def c21 : Code := match c10 with | .seq _ x => x | _ => .skip
noncomputable def c22 : Code := match c7 with | .cond _ _ x => x | _ => .skip
noncomputable def c23 : Code := match c4 with | .seq _ x => x | _ => .skip
noncomputable def c24 : Code := match c23 with | .seq x _ => x | _ => .skip
noncomputable def c25 : Code := match c23 with | .seq _ x => x | _ => .skip
theorem e0 : c0 = .seq c1 c2 := by kernel_rfl
noncomputable def r1 : Array Oper := match c1 with | .region _ x _ => x | _ => #[]
theorem e1 : c1 = .region 0 r1 false := by kernel_rfl
theorem e2 : c2 = .seq c3 c4 := by kernel_rfl
noncomputable def r3 : Array Oper := match c3 with | .region _ x _ => x | _ => #[]
theorem e3 : c3 = .region 1 r3 false := by kernel_rfl
theorem e4 : c4 = .seq c5 c23 := by kernel_rfl
theorem e5 : c5 = .seq c6 c7 := by kernel_rfl
noncomputable def r6 : Array Oper := match c6 with | .region _ x _ => x | _ => #[]
theorem e6 : c6 = .region 2 r6 false := by kernel_rfl
theorem e7 : c7 = .cond (.tmp 8) c8 c22 := by kernel_rfl
theorem e8 : c8 = .seq c9 c10 := by kernel_rfl
noncomputable def r9 : Array Oper := match c9 with | .region _ x _ => x | _ => #[]
theorem e9 : c9 = .region 3 r9 false := by kernel_rfl
theorem e10 : c10 = .seq c11 c21 := by kernel_rfl
theorem e11 : c11 = .block 0 c12 := by kernel_rfl
theorem e12 : c12 = .loop c13 := by kernel_rfl
theorem e13 : c13 = .seq c14 c19 := by kernel_rfl
theorem e14 : c14 = .seq c15 c16 := by kernel_rfl
noncomputable def r15 : Array Oper := match c15 with | .region _ x _ => x | _ => #[]
theorem e15 : c15 = .region 4 r15 false := by kernel_rfl
theorem e16 : c16 = .cond (.tmp 27) c17 c18 := by kernel_rfl
theorem e17 : c17 = .skip := by kernel_rfl
theorem e18 : c18 = .exit 0 := by kernel_rfl
theorem e19 : c19 = .block 1 c20 := by kernel_rfl
noncomputable def r20 : Array Oper := match c20 with | .region _ x _ => x | _ => #[]
theorem e20 : c20 = .region 5 r20 false := by kernel_rfl
noncomputable def r21 : Array Oper := match c21 with | .region _ x _ => x | _ => #[]
theorem e21 : c21 = .region 6 r21 false := by kernel_rfl
theorem e22 : c22 = .skip := by kernel_rfl
theorem e23 : c23 = .seq c24 c25 := by kernel_rfl
noncomputable def r24 : Array Oper := match c24 with | .region _ x _ => x | _ => #[]
theorem e24 : c24 = .region 7 r24 false := by kernel_rfl
theorem e25 : c25 = .ret := by kernel_rfl
theorem body : Try.f28.body = some c0 := by kernel_rfl
section
variable {base : Nat} {W0 : World} {β0 : Bt}
def J2 (k : Nat) (y5 : (Option HA)) (S : HS) : Option ((HV) × HS) :=
  some ((HV.fn (.func 40) [] [(.ptr y5)]), S)
theorem J2_snd {k : Nat}  {y5 : (Option HA)} {S : HS} {p : (HV) × HS} {g0 g1 g2 g3 g4 g6 g7 g8 g9 g10 g11 g12 g13 g14 g15 g16 g17 g18 g19 g20 g21 g22 g23 g24 g25 g26 g27 g28 g29 g30 g31 g32 g33 g34 g35 g36 g37 : HV} (h : J2 k y5 S = some p) : HRun Try.prog base W0 β0 28 none [.code c23] ⟨[g0, g1, g2, g3, g4, (.ptr y5), g6, g7, g8, g9, g10, g11, g12, g13, g14, g15, g16, g17, g18, g19, g20, g21, g22, g23, g24, g25, g26, g27, g28, g29, g30, g31, g32, g33, g34, g35, g36, g37], []⟩ S (fun v S1 => v = p.1 ∧ S1 = p.2) := by
  unfold J2 at h
  refine q_seq e23 ?_
  refine q_region e24 rfl ?_
  refine q_op (dst := some 37) rfl (fun _ ho => ok_makeFunc ho Evs.nil (.cons (.tmp rfl) Evs.nil)) ?_
  refine q_op (dst := some 4) rfl (fun _ ho => ok_assign ho (.tmp rfl)) ?_
  refine hr_region_end ?_
  try dsimp only [HAct.put, List.set_cons_zero, List.set_cons_succ]
  cases h
  exact q_ret e25 at_.at_ rfl (res1 rfl rfl) ⟨rfl, rfl⟩
def J1 (k : Nat) (rec0 : (Option HA) → Int → (Option HA) → Int → HS → Option ((HV) × HS)) (y0 : (Option HA)) (y1 : Int) (y5 : (Option HA)) (y6 : Int) (y27 : Bool) (S : HS) : Option ((HV) × HS) :=
  (if y27 = true then
  rec0 y0 y1 y5 (w64 (y6 + 1)) S else
  (Option.bind (y0) fun p11 =>
  (Option.bind (HS.ldSl S (HA.fld p11 0)) fun p12 =>
  (Option.bind (HS.cut S p12 0 y6 2) fun p13 =>
  (Option.bind (slices_Clone_timer_item_string_timer_item_string.f p13 S) fun p14 =>
  (Option.bind (y5) fun p15 =>
  (Option.bind (HS.sets p14.2 p15 [(Sl.hv p14.1)]) fun p16 =>
  J2 k y5 p16)))))))
theorem J1_snd {k : Nat} {rec0 : (Option HA) → Int → (Option HA) → Int → HS → Option ((HV) × HS)} (hrec0 : ∀ ⦃y0 : (Option HA)⦄ ⦃y1 : Int⦄ ⦃y5 : (Option HA)⦄ ⦃y6 : Int⦄ ⦃S : HS⦄ ⦃p : (HV) × HS⦄ ⦃g2 g3 g4 g7 g8 g9 g10 g11 g12 g13 g14 g15 g16 g17 g18 g19 g20 g21 g22 g23 g24 g25 g26 g27 g28 g29 g30 g31 g32 g33 g34 g35 g36 g37 : HV⦄, rec0 y0 y1 y5 y6 S = some p → HRun Try.prog base W0 β0 28 none [.inLoop c13, .inBlock 0, .code c21, .code c23] ⟨[(.ptr y0), (.int .i64 y1), g2, g3, g4, (.ptr y5), (.int .i64 y6), g7, g8, g9, g10, g11, g12, g13, g14, g15, g16, g17, g18, g19, g20, g21, g22, g23, g24, g25, g26, g27, g28, g29, g30, g31, g32, g33, g34, g35, g36, g37], []⟩ S (fun v S1 => v = p.1 ∧ S1 = p.2)) {y0 : (Option HA)} {y1 : Int} {y5 : (Option HA)} {y6 : Int} {y27 : Bool} {S : HS} {p : (HV) × HS} {g2 g3 g4 g7 g8 g9 g10 g11 g12 g13 g14 g15 g16 g17 g18 g19 g20 g21 g22 g23 g24 g25 g26 g28 g29 g30 g31 g32 g33 g34 g35 g36 g37 : HV} (h : J1 k rec0 y0 y1 y5 y6 y27 S = some p) : HRun Try.prog base W0 β0 28 none [.code c16, .code c19, .inLoop c13, .inBlock 0, .code c21, .code c23] ⟨[(.ptr y0), (.int .i64 y1), g2, g3, g4, (.ptr y5), (.int .i64 y6), g7, g8, g9, g10, g11, g12, g13, g14, g15, g16, g17, g18, g19, g20, g21, g22, g23, g24, g25, g26, (.bool y27), g28, g29, g30, g31, g32, g33, g34, g35, g36, g37], []⟩ S (fun v S1 => v = p.1 ∧ S1 = p.2) := by
  unfold J1 at h
  rcases ifc h with ⟨hc10, h⟩ | ⟨hc10, h⟩
  · refine q_cond_t e16 (.tmp rfl) hc10 ?_
    refine q_skipc e17 ?_
    refine q_block e19 ?_
    refine q_region e20 rfl ?_
    refine q_op (dst := some 28) rfl (fun _ ho => ok_move ho (.tmp rfl)) ?_
    refine q_op (dst := some 29) rfl (fun _ ho => ok_ibin ho (.tmp rfl) (.int _ _) rfl) ?_
    refine q_op (dst := some 6) rfl (fun _ ho => ok_assign ho (.tmp rfl)) ?_
    refine hr_region_end ?_
    try dsimp only [HAct.put, List.set_cons_zero, List.set_cons_succ]
    refine hr_inBlock ?_
    try dsimp only [HAct.put, List.set_cons_zero, List.set_cons_succ]
    exact hrec0 h
  · refine q_cond_f e16 (.tmp rfl) (bfalse hc10) ?_
    refine q_exit e18 rfl ?_
    refine q_region e21 rfl ?_
    refine q_op (dst := some 30) rfl (fun _ ho => ok_move ho (.tmp rfl)) ?_
    obtain ⟨p11, hp11, h⟩ := bindo h
    refine q_op (dst := some 31) rfl (fun _ ho => ok_nilCheck_p ho (.tmp rfl) hp11) ?_
    refine q_op (dst := some 32) rfl (fun _ ho => ok_fieldAddr_s ho fi60_0 (by decide) (.tmp rfl) rfl) ?_
    obtain ⟨p12, hp12, h⟩ := bindo h
    refine q_op (dst := some 33) rfl (fun _ ho => ok_load_s ho sc58 (.tmp rfl) rfl (ldSl_out hp12)) ?_
    try dsimp only [HAct.put, List.set_cons_zero, List.set_cons_succ]
    refine q_op (dst := some 34) rfl (fun _ ho => ok_move ho (.tmp rfl)) ?_
    obtain ⟨p13, hp13, h⟩ := bindo h
    refine q_op (dst := some 35) rfl (fun _ ho => ok_slice (kl := .i64) (kh := .i64) (s := p12) (l := 0) (h := y6) ho tu58 si63 (.tmp rfl) (.inl ⟨rfl, rfl⟩) (.inr ⟨_, rfl, (.tmp rfl)⟩) hp13) ?_
    obtain ⟨p14, hp14, h⟩ := bindo h
    refine q_call (dst := some 36) rfl (.func _) (.cons (.tmp rfl) Evs.nil) (HInv.static slices_Clone_timer_item_string_timer_item_string.at_ slices_Clone_timer_item_string_timer_item_string.body (slices_Clone_timer_item_string_timer_item_string.snd  hp14)) ?_
    rintro _ _ ⟨rfl, rfl⟩
    obtain ⟨p15, hp15, h⟩ := bindo h
    obtain ⟨p16, hp16, h⟩ := bindo h
    refine q_op (dst := none) rfl (fun _ ho => ok_store_s (v := (Sl.hv p14.1)) ho sz58 (.tmp rfl) hp15 (.tmp rfl) rfl hp16) ?_
    refine hr_region_end ?_
    try dsimp only [HAct.put, List.set_cons_zero, List.set_cons_succ]
    try dsimp only [HAct.put, List.set_cons_zero, List.set_cons_succ]
    exact J2_snd  h
def L0 (k : Nat) : Nat → (Option HA) → Int → (Option HA) → Int → HS → Option ((HV) × HS)
  | 0, _, _, _, _, _ => none
  | n + 1, y0, y1, y5, y6, S =>
    (Option.bind (y0) fun p3 =>
    (Option.bind (HS.ldSl S (HA.fld p3 0)) fun p4 =>
    (if y6 < (Sl.len p4 : Int) then
    (Option.bind (y0) fun p6 =>
    (Option.bind (HS.ldSl S (HA.fld p6 0)) fun p7 =>
    (Option.bind (HS.idx S p7 y6 2) fun p8 =>
    (Option.bind (HS.ldI S .i64 (HA.fld p8 1)) fun p9 =>
    J1 k (L0 k n) y0 y1 y5 y6 (decide (p9 ≤ y1)) S)))) else
    J1 k (L0 k n) y0 y1 y5 y6 false S)))
theorem L0_snd {k : Nat}  : ∀ {n : Nat} ⦃y0 : (Option HA)⦄ ⦃y1 : Int⦄ ⦃y5 : (Option HA)⦄ ⦃y6 : Int⦄ ⦃S : HS⦄ ⦃p : (HV) × HS⦄ ⦃g2 g3 g4 g7 g8 g9 g10 g11 g12 g13 g14 g15 g16 g17 g18 g19 g20 g21 g22 g23 g24 g25 g26 g27 g28 g29 g30 g31 g32 g33 g34 g35 g36 g37 : HV⦄, L0 k n y0 y1 y5 y6 S = some p → HRun Try.prog base W0 β0 28 none [.inLoop c13, .inBlock 0, .code c21, .code c23] ⟨[(.ptr y0), (.int .i64 y1), g2, g3, g4, (.ptr y5), (.int .i64 y6), g7, g8, g9, g10, g11, g12, g13, g14, g15, g16, g17, g18, g19, g20, g21, g22, g23, g24, g25, g26, g27, g28, g29, g30, g31, g32, g33, g34, g35, g36, g37], []⟩ S (fun v S1 => v = p.1 ∧ S1 = p.2) := by
  intro n
  induction n with
  | zero => intro _ _ _ _ _ _ _ _ _ _ _ _ _ _ _ _ _ _ _ _ _ _ _ _ _ _ _ _ _ _ _ _ _ _ _ _ _ _ _ _ h; cases h
  | succ n ih =>
    intro y0 y1 y5 y6 S p g2 g3 g4 g7 g8 g9 g10 g11 g12 g13 g14 g15 g16 g17 g18 g19 g20 g21 g22 g23 g24 g25 g26 g27 g28 g29 g30 g31 g32 g33 g34 g35 g36 g37 h
    simp only [L0] at h
    refine hr_inLoop ?_
    refine q_seq e13 ?_
    refine q_seq e14 ?_
    refine q_region e15 rfl ?_
    refine q_op (dst := some 9) rfl (fun _ ho => ok_move ho (.tmp rfl)) ?_
    refine q_op (dst := some 10) rfl (fun _ ho => ok_move ho (.tmp rfl)) ?_
    obtain ⟨p3, hp3, h⟩ := bindo h
    refine q_op (dst := some 11) rfl (fun _ ho => ok_nilCheck_p ho (.tmp rfl) hp3) ?_
    refine q_op (dst := some 12) rfl (fun _ ho => ok_fieldAddr_s ho fi60_0 (by decide) (.tmp rfl) rfl) ?_
    try dsimp only [HAct.put, List.set_cons_zero, List.set_cons_succ]
    obtain ⟨p4, hp4, h⟩ := bindo h
    refine q_op (dst := some 13) rfl (fun _ ho => ok_load_s ho sc58 (.tmp rfl) rfl (ldSl_out hp4)) ?_
    refine q_op (dst := some 14) rfl (fun _ ho => ok_len_sl (q := Sl.a p4) (n := Sl.len p4) (z := Sl.cap p4) ho rfl tu58 (.tmp rfl)) ?_
    refine q_op (dst := some 15) rfl (fun _ ho => ok_ibin ho (.tmp rfl) (.tmp rfl) rfl) ?_
    refine q_op (dst := some 16) rfl (fun _ ho => ok_move ho (.tmp rfl)) ?_
    try dsimp only [HAct.put, List.set_cons_zero, List.set_cons_succ]
    rcases ifc h with ⟨hc5, h⟩ | ⟨hc5, h⟩
    · refine q_op_g (t := 16) (dst := some 17) rfl rfl rfl (decide_eq_true hc5) (fun _ ho => ok_move ho (.tmp rfl)) ?_
      obtain ⟨p6, hp6, h⟩ := bindo h
      refine q_op_g (t := 16) (dst := some 18) rfl rfl rfl (decide_eq_true hc5) (fun _ ho => ok_nilCheck_p ho (.tmp rfl) hp6) ?_
      refine q_op_g (t := 16) (dst := some 19) rfl rfl rfl (decide_eq_true hc5) (fun _ ho => ok_fieldAddr_s ho fi60_0 (by decide) (.tmp rfl) rfl) ?_
      obtain ⟨p7, hp7, h⟩ := bindo h
      refine q_op_g (t := 16) (dst := some 20) rfl rfl rfl (decide_eq_true hc5) (fun _ ho => ok_load_s ho sc58 (.tmp rfl) rfl (ldSl_out hp7)) ?_
      try dsimp only [HAct.put, List.set_cons_zero, List.set_cons_succ]
      refine q_op_g (t := 16) (dst := some 21) rfl rfl rfl (decide_eq_true hc5) (fun _ ho => ok_move ho (.tmp rfl)) ?_
      obtain ⟨p8, hp8, h⟩ := bindo h
      refine q_op_g (t := 16) (dst := some 22) rfl rfl rfl (decide_eq_true hc5) (fun _ ho => ok_indexAddr (s := p7) ho tu58 sz63 (.tmp rfl) (.tmp rfl) hp8) ?_
      refine q_op_g (t := 16) (dst := some 23) rfl rfl rfl (decide_eq_true hc5) (fun _ ho => ok_fieldAddr_s ho fi63_1 (by decide) (.tmp rfl) rfl) ?_
      obtain ⟨p9, hp9, h⟩ := bindo h
      refine q_op_g (t := 16) (dst := some 24) rfl rfl rfl (decide_eq_true hc5) (fun _ ho => ok_load_s ho sc3 (.tmp rfl) rfl (ldI_out hp9)) ?_
      try dsimp only [HAct.put, List.set_cons_zero, List.set_cons_succ]
      refine q_op_g (t := 16) (dst := some 25) rfl rfl rfl (decide_eq_true hc5) (fun _ ho => ok_move ho (.tmp rfl)) ?_
      refine q_op_g (t := 16) (dst := some 26) rfl rfl rfl (decide_eq_true hc5) (fun _ ho => ok_ibin ho (.tmp rfl) (.tmp rfl) rfl) ?_
      refine q_op (dst := some 27) rfl (fun _ ho => ok_pick_tt ho (.tmp rfl) (decide_eq_true hc5) (.tmp rfl)) ?_
      refine hr_region_end ?_
      try dsimp only [HAct.put, List.set_cons_zero, List.set_cons_succ]
      try dsimp only [HAct.put, List.set_cons_zero, List.set_cons_succ]
      exact J1_snd ih h
    · refine q_skip (dst := some 17) (t := 16) rfl rfl rfl (decide_eq_false hc5) ?_
      refine q_skip (dst := some 18) (t := 16) rfl rfl rfl (decide_eq_false hc5) ?_
      refine q_skip (dst := some 19) (t := 16) rfl rfl rfl (decide_eq_false hc5) ?_
      refine q_skip (dst := some 20) (t := 16) rfl rfl rfl (decide_eq_false hc5) ?_
      try dsimp only [HAct.put, List.set_cons_zero, List.set_cons_succ]
      refine q_skip (dst := some 21) (t := 16) rfl rfl rfl (decide_eq_false hc5) ?_
      refine q_skip (dst := some 22) (t := 16) rfl rfl rfl (decide_eq_false hc5) ?_
      refine q_skip (dst := some 23) (t := 16) rfl rfl rfl (decide_eq_false hc5) ?_
      refine q_skip (dst := some 24) (t := 16) rfl rfl rfl (decide_eq_false hc5) ?_
      try dsimp only [HAct.put, List.set_cons_zero, List.set_cons_succ]
      refine q_skip (dst := some 25) (t := 16) rfl rfl rfl (decide_eq_false hc5) ?_
      refine q_skip (dst := some 26) (t := 16) rfl rfl rfl (decide_eq_false hc5) ?_
      refine q_op (dst := some 27) rfl (fun _ ho => ok_pick_ff ho (.tmp rfl) (decide_eq_false hc5) (.bool _)) ?_
      refine hr_region_end ?_
      try dsimp only [HAct.put, List.set_cons_zero, List.set_cons_succ]
      try dsimp only [HAct.put, List.set_cons_zero, List.set_cons_succ]
      exact J1_snd ih h
def f (k : Nat) (x0 : (Option HA)) (x1 : Int) (S : HS) : Option ((HV) × HS) :=
  (letv (HS.new S (.cells 1 [[(Sl.hv Sl.nil)]] true)) fun p1 =>
  (if (!Option.isNone x0) = true then
  L0 k k x0 x1 (some (HA.cell0 S.next)) 0 p1 else
  J2 k (some (HA.cell0 S.next)) p1))
theorem snd {k : Nat} {x0 : (Option HA)} {x1 : Int} {S : HS}  {p : (HV) × HS} (h : f k x0 x1 S = some p) : HCall Try.prog base W0 β0 28 [(.ptr x0), (.int .i64 x1)] S (fun v S1 => v = p.1 ∧ S1 = p.2) := by
  unfold f at h
  refine HCall.of_run at_.at_ body ?_
  show HRun Try.prog base W0 β0 28 none [.code c0] ⟨[(.ptr x0), (.int .i64 x1), .tup [], .tup [], .tup [], .tup [], .tup [], .tup [], .tup [], .tup [], .tup [], .tup [], .tup [], .tup [], .tup [], .tup [], .tup [], .tup [], .tup [], .tup [], .tup [], .tup [], .tup [], .tup [], .tup [], .tup [], .tup [], .tup [], .tup [], .tup [], .tup [], .tup [], .tup [], .tup [], .tup [], .tup [], .tup [], .tup []], []⟩ S _
  refine q_seq e0 ?_
  refine q_region e1 rfl ?_
  refine q_op (dst := some 4) rfl (fun _ ho => ok_assign ho (.const fun _ => .nilFn)) ?_
  refine hr_region_end ?_
  try dsimp only [HAct.put, List.set_cons_zero, List.set_cons_succ]
  refine q_seq e2 ?_
  refine q_region e3 rfl ?_
  obtain ⟨p1, hp1, h⟩ := leto h
  refine q_op (dst := some 5) rfl (fun _ ho => ok_alloc_e ho zi58 zr58 (by decide) rfl hp1) ?_
  refine hr_region_end ?_
  try dsimp only [HAct.put, List.set_cons_zero, List.set_cons_succ]
  refine q_seq e4 ?_
  refine q_seq e5 ?_
  refine q_region e6 rfl ?_
  refine q_op (dst := some 7) rfl (fun _ ho => ok_move ho (.tmp rfl)) ?_
  refine q_op (dst := some 8) rfl (fun _ ho => ok_nil_ptr ho tu25 (.tmp rfl) (.inr ⟨rfl, rfl⟩)) ?_
  refine hr_region_end ?_
  try dsimp only [HAct.put, List.set_cons_zero, List.set_cons_succ]
  rcases ifc h with ⟨hc2, h⟩ | ⟨hc2, h⟩
  · refine q_cond_t e7 (.tmp rfl) hc2 ?_
    refine q_seq e8 ?_
    refine q_region e9 rfl ?_
    refine q_op (dst := some 6) rfl (fun _ ho => ok_assign ho (.int _ _)) ?_
    refine hr_region_end ?_
    try dsimp only [HAct.put, List.set_cons_zero, List.set_cons_succ]
    refine q_seq e10 ?_
    refine q_block e11 ?_
    refine q_loop e12 ?_
    try dsimp only [HAct.put, List.set_cons_zero, List.set_cons_succ]
    exact L0_snd  h
  · refine q_cond_f e7 (.tmp rfl) (bfalse hc2) ?_
    refine q_skipc e22 ?_
    try dsimp only [HAct.put, List.set_cons_zero, List.set_cons_succ]
    exact J2_snd  h
end
end timer_Table_string_Due
namespace timer_Table_string_Take
abbrev id : Nat := 11
theorem at_ : FnAt Try.prog 11 Try.f11 := ⟨Try.func11, by kernel_rfl⟩
noncomputable def c0 : Code := (Try.f11.body).getD .skip
noncomputable def c1 : Code := match c0 with | .seq x _ => x | _ => .skip
noncomputable def c2 : Code := match c0 with | .seq _ x => x | _ => .skip
noncomputable def c3 : Code := match c2 with | .seq x _ => x | _ => .skip
noncomputable def c4 : Code := match c2 with | .seq _ x => x | _ => .skip
noncomputable def c5 : Code := match c4 with | .seq x _ => x | _ => .skip
noncomputable def c6 : Code := match c5 with | .seq x _ => x | _ => .skip
noncomputable def c7 : Code := match c5 with | .seq _ x => x | _ => .skip
noncomputable def c8 : Code := match c7 with | .block _ x => x | _ => .skip
noncomputable def c9 : Code := match c8 with | .rangeFunc _ _ x _ => x | _ => .skip
noncomputable def c10 : Code := match c8 with | .rangeFunc _ _ _ x => x | _ => .skip
noncomputable def c11 : Code := match c10 with | .block _ x => x | _ => .skip
noncomputable def c12 : Code := match c11 with | .seq x _ => x | _ => .skip
noncomputable def c13 : Code := match c11 with | .seq _ x => x | _ => .skip
noncomputable def c14 : Code := match c4 with | .seq _ x => x | _ => .skip
noncomputable def c15 : Code := match c14 with | .seq x _ => x | _ => .skip
noncomputable def c16 : Code := match c14 with | .seq _ x => x | _ => .skip
theorem e0 : c0 = .seq c1 c2 := by kernel_rfl
noncomputable def r1 : Array Oper := match c1 with | .region _ x _ => x | _ => #[]
theorem e1 : c1 = .region 0 r1 false := by kernel_rfl
theorem e2 : c2 = .seq c3 c4 := by kernel_rfl
noncomputable def r3 : Array Oper := match c3 with | .region _ x _ => x | _ => #[]
theorem e3 : c3 = .region 1 r3 false := by kernel_rfl
theorem e4 : c4 = .seq c5 c14 := by kernel_rfl
theorem e5 : c5 = .seq c6 c7 := by kernel_rfl
noncomputable def r6 : Array Oper := match c6 with | .region _ x _ => x | _ => #[]
theorem e6 : c6 = .region 2 r6 false := by kernel_rfl
theorem e7 : c7 = .block 0 c8 := by kernel_rfl
theorem e8 : c8 = .rangeFunc (.tmp 9) #[10, 11] c9 c10 := by kernel_rfl
noncomputable def r9 : Array Oper := match c9 with | .region _ x _ => x | _ => #[]
theorem e9 : c9 = .region 3 r9 false := by kernel_rfl
theorem e10 : c10 = .block 1 c11 := by kernel_rfl
theorem e11 : c11 = .seq c12 c13 := by kernel_rfl
noncomputable def r12 : Array Oper := match c12 with | .region _ x _ => x | _ => #[]
theorem e12 : c12 = .region 4 r12 false := by kernel_rfl
noncomputable def r13 : Array Oper := match c13 with | .region _ x _ => x | _ => #[]
theorem e13 : c13 = .region 5 r13 false := by kernel_rfl
theorem e14 : c14 = .seq c15 c16 := by kernel_rfl
noncomputable def r15 : Array Oper := match c15 with | .region _ x _ => x | _ => #[]
theorem e15 : c15 = .region 6 r15 false := by kernel_rfl
theorem e16 : c16 = .ret := by kernel_rfl
theorem body : Try.f11.body = some c0 := by kernel_rfl
section
variable {base : Nat} {W0 : World} {β0 : Bt}
def J0 (D : Dp) (H : Hd) (k : Nat) (l : Nat) (y2 : (Option HA)) (y5 : (Option HA)) (y10 : (List UInt8)) (S : HS) : Option (HV × HS) :=
  (Option.bind (HS.begin_ S l) fun p5 =>
  (Option.bind (y5) fun p6 =>
  (Option.bind (HS.ldSl p5 p6) fun p7 =>
  (letv (HS.lit p5 [[(.str y10)]] 1) fun p8 =>
  (Option.bind (HS.rows (p8.2) (p8.1) 1) fun p9 =>
  (Option.bind (HS.app (p8.2) p7 p9 1) fun p10 =>
  (Option.bind (y5) fun p11 =>
  (Option.bind (HS.sets (p10.2) p11 [(Sl.hv (p10.1))]) fun p12 =>
  (Option.bind (y2) fun p13 =>
  (Option.bind (HS.ldP p12 p13) fun p14 =>
  (Option.bind (timer_Table_string_Stop.f D H k p14 y10 p12) fun p15 =>
  (HS.endr p15.2 l none))))))))))))
theorem J0_snd {D : Dp} {H : Hd} {k : Nat} {l : Nat} (hD : DSound Try.prog base W0 D) (hH : HSound Try.prog base W0 β0 H)  {y2 : (Option HA)} {y5 : (Option HA)} {y10 : (List UInt8)} {S : HS} {p : HV × HS} {g0 g1 g3 g4 g6 g7 g8 g9 g11 g12 g13 g14 g15 g16 g17 g18 g19 : HV} (h : J0 D H k l y2 y5 y10 S = some p) : HRun Try.prog base W0 β0 11 (some l) [.code c9, .beginRound, .code c10] ⟨[g0, g1, (.ptr y2), g3, g4, (.ptr y5), g6, g7, g8, g9, (.str y10), g11, g12, g13, g14, g15, g16, g17, g18, g19], []⟩ S (fun v S1 => v = p.1 ∧ S1 = p.2) := by
  unfold J0 at h
  refine q_region e9 rfl ?_
  refine q_op (dst := some 6) rfl (fun _ ho => ok_assign ho (.tmp rfl)) ?_
  refine hr_region_end ?_
  try dsimp only [HAct.put, List.set_cons_zero, List.set_cons_succ]
  obtain ⟨p5, hp5, h⟩ := bindo h
  refine q_begin hp5 ?_
  refine q_block e10 ?_
  refine q_seq e11 ?_
  refine q_region e12 rfl ?_
  obtain ⟨p6, hp6, h⟩ := bindo h
  obtain ⟨p7, hp7, h⟩ := bindo h
  refine q_op (dst := some 12) rfl (fun _ ho => ok_load_s ho sc34 (.tmp rfl) hp6 (ldSl_out hp7)) ?_
  refine q_op (dst := some 13) rfl (fun _ ho => ok_move ho (.tmp rfl)) ?_
  obtain ⟨p8, hp8, h⟩ := leto h
  refine q_op (dst := some 14) rfl (fun _ ho => ok_buildSlice_s (xs := [(.tmp 13)]) el34 ho rfl rfl (by decide) (.cons (.tmp rfl) Evs.nil) rfl rfl hp8) ?_
  obtain ⟨p9, hp9, h⟩ := bindo h
  obtain ⟨p10, hp10, h⟩ := bindo h
  refine q_op (dst := some 15) rfl (fun _ ho => ok_append (s := p7) (s1 := (p8.1)) el34 ho rfl rfl ⟨_, tu34⟩ (.tmp rfl) (.tmp rfl) hp9 hp10) ?_
  try dsimp only [HAct.put, List.set_cons_zero, List.set_cons_succ]
  obtain ⟨p11, hp11, h⟩ := bindo h
  obtain ⟨p12, hp12, h⟩ := bindo h
  refine q_op (dst := none) rfl (fun _ ho => ok_store_s (v := (Sl.hv (p10.1))) ho sz34 (.tmp rfl) hp11 (.tmp rfl) rfl hp12) ?_
  refine hr_region_end ?_
  try dsimp only [HAct.put, List.set_cons_zero, List.set_cons_succ]
  refine q_region e13 rfl ?_
  obtain ⟨p13, hp13, h⟩ := bindo h
  obtain ⟨p14, hp14, h⟩ := bindo h
  refine q_op (dst := some 16) rfl (fun _ ho => ok_load_s ho sc25 (.tmp rfl) hp13 (ldP_out hp14)) ?_
  refine q_op (dst := some 17) rfl (fun _ ho => ok_move ho (.tmp rfl)) ?_
  obtain ⟨p15, hp15, h⟩ := bindo h
  refine q_call (dst := some 18) rfl (.func _) (.cons (.tmp rfl) (.cons (.tmp rfl) Evs.nil)) (HInv.static timer_Table_string_Stop.at_ timer_Table_string_Stop.body (timer_Table_string_Stop.snd hD hH hp15)) ?_
  rintro _ _ ⟨rfl, rfl⟩
  refine hr_region_end ?_
  try dsimp only [HAct.put, List.set_cons_zero, List.set_cons_succ]
  refine hr_inBlock ?_
  exact q_round_end h ⟨rfl, rfl⟩
def f (D : Dp) (H : Hd) (k : Nat) (x0 : (Option HA)) (x1 : Int) (S : HS) : Option ((Sl) × HS) :=
  (letv (HS.new S (.cells 1 [[(.ptr x0)]] true)) fun p1 =>
  (letv (HS.new p1 (.cells 1 [[(Sl.hv Sl.nil)]] true)) fun p2 =>
  (Option.bind (HS.ldP p2 (HA.cell0 S.next)) fun p3 =>
  (Option.bind (timer_Table_string_Due.f k p3 x1 p2) fun p4 =>
  (Option.bind (D (Hd.set H (HS.next p4.2 + 1) fun vs T =>
  (Option.bind (HS.lp T (HS.next p4.2 + 1)) fun u19 =>
  (Option.bind (args2 vs) fun ar16 =>
  (Option.bind (dS ar16.1) fun p17 =>
  (Option.bind (dI .i64 ar16.2) fun p18 =>
  (J0 D H k (HS.next p4.2 + 1) (some (HA.cell0 S.next)) (some (HA.cell0 p1.next)) p17 T)))))) p4.1 [.fn (.yield (HS.next p4.2 + 1)) [] []] (HS.new (HS.new p4.2 .defer) (.loop .ready none))) fun p20 =>
  (Option.bind (HS.finish p20.2 (HS.next p4.2 + 1)) fun p21 =>
  (Option.bind (pcode p21.1) fun n22 =>
  (if n22 = 0 then
  (Option.bind (HS.ldSl p21.2 (HA.cell0 p1.next)) fun p24 =>
  (Option.bind (HS.leave p21.2 (HS.next p4.2 :: [])) fun p25 =>
  some (p24, p25))) else
  none))))))))
theorem snd {D : Dp} {H : Hd} {k : Nat} {x0 : (Option HA)} {x1 : Int} {S : HS} (hD : DSound Try.prog base W0 D) (hH : HSound Try.prog base W0 β0 H)  {p : (Sl) × HS} (h : f D H k x0 x1 S = some p) : HCall Try.prog base W0 β0 11 [(.ptr x0), (.int .i64 x1)] S (fun v S1 => v = (Sl.hv p.1) ∧ S1 = p.2) := by
  unfold f at h
  refine HCall.of_run at_.at_ body ?_
  show HRun Try.prog base W0 β0 11 none [.code c0] ⟨[(.ptr x0), (.int .i64 x1), .tup [], .tup [], .tup [], .tup [], .tup [], .tup [], .tup [], .tup [], .tup [], .tup [], .tup [], .tup [], .tup [], .tup [], .tup [], .tup [], .tup [], .tup []], []⟩ S _
  refine q_seq e0 ?_
  refine q_region e1 rfl ?_
  obtain ⟨p1, hp1, h⟩ := leto h
  refine q_op (dst := some 2) rfl (fun _ ho => ok_box_e ho (.tmp rfl) (Nat.zero_lt_succ _) rfl hp1) ?_
  refine q_op (dst := some 4) rfl (fun _ ho => ok_assign ho (.const fun _ => .slNil none)) ?_
  refine hr_region_end ?_
  try dsimp only [HAct.put, List.set_cons_zero, List.set_cons_succ]
  refine q_seq e2 ?_
  refine q_region e3 rfl ?_
  obtain ⟨p2, hp2, h⟩ := leto h
  refine q_op (dst := some 5) rfl (fun _ ho => ok_alloc_e ho zi34 zr34 (by decide) rfl hp2) ?_
  refine hr_region_end ?_
  try dsimp only [HAct.put, List.set_cons_zero, List.set_cons_succ]
  refine q_seq e4 ?_
  refine q_seq e5 ?_
  refine q_region e6 rfl ?_
  obtain ⟨p3, hp3, h⟩ := bindo h
  refine q_op (dst := some 7) rfl (fun _ ho => ok_load_s ho sc25 (.tmp rfl) rfl (ldP_out hp3)) ?_
  refine q_op (dst := some 8) rfl (fun _ ho => ok_move ho (.tmp rfl)) ?_
  obtain ⟨p4, hp4, h⟩ := bindo h
  refine q_call (dst := some 9) rfl (.func _) (.cons (.tmp rfl) (.cons (.tmp rfl) Evs.nil)) (HInv.static timer_Table_string_Due.at_ timer_Table_string_Due.body (timer_Table_string_Due.snd  hp4)) ?_
  rintro _ _ ⟨rfl, rfl⟩
  refine hr_region_end ?_
  try dsimp only [HAct.put, List.set_cons_zero, List.set_cons_succ]
  refine q_block e7 ?_
  obtain ⟨p20, hp20, h⟩ := bindo h
  obtain ⟨p21, hp21, h⟩ := bindo h
  obtain ⟨n22, hn22, h⟩ := bindo h
  refine q_range (D := D) (H := H) e8 (.tmp rfl) hD hH hp20 hp21 ?_ ?_
  · intro β1 hle hLA vs T u T' hr
    obtain ⟨u19, hu19, hr⟩ := bindo hr
    obtain ⟨ar16, har16, hr⟩ := bindo hr
    obtain ⟨p17, hp17, hr⟩ := bindo hr
    obtain ⟨p18, hp18, hr⟩ := bindo hr
    rw [args2_out har16]
    refine q_yield2 hLA hu19 rfl rfl ?_
    rw [dS_out hp17, dI_out hp18]
    simp only [HAct.params, List.set_cons_zero, List.set_cons_succ]
    exact J0_snd hD (hH.up hle) hr
  · rcases ifc h with ⟨hc23, h⟩ | ⟨hc23, h⟩
    · rw [pcode0 hn22 hc23]
      simp only [jumped_none, jumped_some]
      refine hr_inBlock ?_
      refine q_seq e14 ?_
      refine q_region e15 rfl ?_
      obtain ⟨p24, hp24, h⟩ := bindo h
      refine q_op (dst := some 19) rfl (fun _ ho => ok_load_s ho sc34 (.tmp rfl) rfl (ldSl_out hp24)) ?_
      refine q_op (dst := some 4) rfl (fun _ ho => ok_assign ho (.tmp rfl)) ?_
      refine hr_region_end ?_
      try dsimp only [HAct.put, List.set_cons_zero, List.set_cons_succ]
      obtain ⟨p25, hp25, h⟩ := bindo h
      cases h
      exact q_ret e16 at_.at_ hp25 (res1 rfl rfl) ⟨rfl, rfl⟩
    · cases h
end
end timer_Table_string_Take
namespace timer_Table_string_Len
abbrev id : Nat := 17
theorem at_ : FnAt Try.prog 17 Try.f17 := ⟨Try.func17, by kernel_rfl⟩
noncomputable def c0 : Code := (Try.f17.body).getD .skip
noncomputable def c1 : Code := match c0 with | .seq x _ => x | _ => .skip
noncomputable def c2 : Code := match c0 with | .seq _ x => x | _ => .skip
noncomputable def c3 : Code := match c2 with | .seq x _ => x | _ => .skip
noncomputable def c4 : Code := match c3 with | .seq x _ => x | _ => .skip
noncomputable def c5 : Code := match c3 with | .seq _ x => x | _ => .skip
noncomputable def c6 : Code := match c5 with | .cond _ x _ => x | _ => .skip
noncomputable def c7 : Code := match c6 with | .seq x _ => x | _ => .skip
noncomputable def c8 : Code := match c6 with | .seq _ x => x | _ => .skip
noncomputable def c9 : Code := match c5 with | .cond _ _ x => x | _ => .skip
noncomputable def c10 : Code := match c2 with | .seq _ x => x | _ => .skip
noncomputable def c11 : Code := match c10 with | .seq x _ => x | _ => .skip
noncomputable def c12 : Code := match c10 with | .seq _ x => x | _ => .skip
theorem e0 : c0 = .seq c1 c2 := by kernel_rfl
noncomputable def r1 : Array Oper := match c1 with | .region _ x _ => x | _ => #[]
theorem e1 : c1 = .region 0 r1 false := by kernel_rfl
theorem e2 : c2 = .seq c3 c10 := by kernel_rfl
theorem e3 : c3 = .seq c4 c5 := by kernel_rfl
noncomputable def r4 : Array Oper := match c4 with | .region _ x _ => x | _ => #[]
theorem e4 : c4 = .region 1 r4 false := by kernel_rfl
theorem e5 : c5 = .cond (.tmp 4) c6 c9 := by kernel_rfl
theorem e6 : c6 = .seq c7 c8 := by kernel_rfl
noncomputable def r7 : Array Oper := match c7 with | .region _ x _ => x | _ => #[]
theorem e7 : c7 = .region 2 r7 false := by kernel_rfl
theorem e8 : c8 = .ret := by kernel_rfl
theorem e9 : c9 = .skip := by kernel_rfl
theorem e10 : c10 = .seq c11 c12 := by kernel_rfl
noncomputable def r11 : Array Oper := match c11 with | .region _ x _ => x | _ => #[]
theorem e11 : c11 = .region 3 r11 false := by kernel_rfl
theorem e12 : c12 = .ret := by kernel_rfl
theorem body : Try.f17.body = some c0 := by kernel_rfl
section
variable {base : Nat} {W0 : World} {β0 : Bt}
def f (x0 : (Option HA)) (S : HS) : Option ((Int) × HS) :=
  (if (Option.isNone x0) = true then
  some (0, S) else
  (Option.bind (x0) fun p2 =>
  (Option.bind (HS.ldSl S (HA.fld p2 0)) fun p3 =>
  some ((Sl.len p3 : Int), S))))
theorem snd {x0 : (Option HA)} {S : HS}  {p : (Int) × HS} (h : f x0 S = some p) : HCall Try.prog base W0 β0 17 [(.ptr x0)] S (fun v S1 => v = (.int .i64 p.1) ∧ S1 = p.2) := by
  unfold f at h
  refine HCall.of_run at_.at_ body ?_
  show HRun Try.prog base W0 β0 17 none [.code c0] ⟨[(.ptr x0), .tup [], .tup [], .tup [], .tup [], .tup [], .tup [], .tup [], .tup [], .tup []], []⟩ S _
  refine q_seq e0 ?_
  refine q_region e1 rfl ?_
  refine q_op (dst := some 2) rfl (fun _ ho => ok_assign ho (.int _ _)) ?_
  refine hr_region_end ?_
  try dsimp only [HAct.put, List.set_cons_zero, List.set_cons_succ]
  refine q_seq e2 ?_
  refine q_seq e3 ?_
  refine q_region e4 rfl ?_
  refine q_op (dst := some 3) rfl (fun _ ho => ok_move ho (.tmp rfl)) ?_
  refine q_op (dst := some 4) rfl (fun _ ho => ok_nil_ptr ho tu25 (.tmp rfl) (.inl ⟨rfl, rfl⟩)) ?_
  refine hr_region_end ?_
  try dsimp only [HAct.put, List.set_cons_zero, List.set_cons_succ]
  rcases ifc h with ⟨hc1, h⟩ | ⟨hc1, h⟩
  · refine q_cond_t e5 (.tmp rfl) hc1 ?_
    refine q_seq e6 ?_
    refine q_region e7 rfl ?_
    refine q_op (dst := some 2) rfl (fun _ ho => ok_assign ho (.int _ _)) ?_
    refine hr_region_end ?_
    try dsimp only [HAct.put, List.set_cons_zero, List.set_cons_succ]
    cases h
    exact q_ret e8 at_.at_ rfl (res1 rfl rfl) ⟨rfl, rfl⟩
  · refine q_cond_f e5 (.tmp rfl) (bfalse hc1) ?_
    refine q_skipc e9 ?_
    refine q_seq e10 ?_
    refine q_region e11 rfl ?_
    refine q_op (dst := some 5) rfl (fun _ ho => ok_move ho (.tmp rfl)) ?_
    obtain ⟨p2, hp2, h⟩ := bindo h
    refine q_op (dst := some 6) rfl (fun _ ho => ok_nilCheck_p ho (.tmp rfl) hp2) ?_
    refine q_op (dst := some 7) rfl (fun _ ho => ok_fieldAddr_s ho fi60_0 (by decide) (.tmp rfl) rfl) ?_
    obtain ⟨p3, hp3, h⟩ := bindo h
    refine q_op (dst := some 8) rfl (fun _ ho => ok_load_s ho sc58 (.tmp rfl) rfl (ldSl_out hp3)) ?_
    try dsimp only [HAct.put, List.set_cons_zero, List.set_cons_succ]
    refine q_op (dst := some 9) rfl (fun _ ho => ok_len_sl (q := Sl.a p3) (n := Sl.len p3) (z := Sl.cap p3) ho rfl tu58 (.tmp rfl)) ?_
    refine q_op (dst := some 2) rfl (fun _ ho => ok_assign ho (.tmp rfl)) ?_
    refine hr_region_end ?_
    try dsimp only [HAct.put, List.set_cons_zero, List.set_cons_succ]
    cases h
    exact q_ret e12 at_.at_ rfl (res1 rfl rfl) ⟨rfl, rfl⟩
end
end timer_Table_string_Len
namespace rollcalllaw09_awake
abbrev id : Nat := 6
theorem at_ : FnAt Try.prog 6 Try.f6 := ⟨Try.func6, by kernel_rfl⟩
noncomputable def c0 : Code := (Try.f6.body).getD .skip
noncomputable def c1 : Code := match c0 with | .seq x _ => x | _ => .skip
noncomputable def c2 : Code := match c0 with | .seq _ x => x | _ => .skip
noncomputable def c3 : Code := match c2 with | .seq x _ => x | _ => .skip
noncomputable def c4 : Code := match c2 with | .seq _ x => x | _ => .skip
noncomputable def c5 : Code := match c4 with | .seq x _ => x | _ => .skip
noncomputable def c6 : Code := match c4 with | .seq _ x => x | _ => .skip
noncomputable def c7 : Code := match c6 with | .seq x _ => x | _ => .skip
noncomputable def c8 : Code := match c6 with | .seq _ x => x | _ => .skip
noncomputable def c9 : Code := match c8 with | .seq x _ => x | _ => .skip
noncomputable def c10 : Code := match c8 with | .seq _ x => x | _ => .skip
noncomputable def c11 : Code := match c10 with | .seq x _ => x | _ => .skip
noncomputable def c12 : Code := match c10 with | .seq _ x => x | _ => .skip
noncomputable def c13 : Code := match c12 with | .seq x _ => x | _ => .skip
noncomputable def c14 : Code := match c12 with | .seq _ x => x | _ => .skip
theorem e0 : c0 = .seq c1 c2 := by kernel_rfl
noncomputable def r1 : Array Oper := match c1 with | .region _ x _ => x | _ => #[]
theorem e1 : c1 = .region 0 r1 false := by kernel_rfl
theorem e2 : c2 = .seq c3 c4 := by kernel_rfl
noncomputable def r3 : Array Oper := match c3 with | .region _ x _ => x | _ => #[]
theorem e3 : c3 = .region 1 r3 false := by kernel_rfl
theorem e4 : c4 = .seq c5 c6 := by kernel_rfl
noncomputable def r5 : Array Oper := match c5 with | .region _ x _ => x | _ => #[]
theorem e5 : c5 = .region 2 r5 false := by kernel_rfl
theorem e6 : c6 = .seq c7 c8 := by kernel_rfl
noncomputable def r7 : Array Oper := match c7 with | .region _ x _ => x | _ => #[]
theorem e7 : c7 = .region 3 r7 false := by kernel_rfl
theorem e8 : c8 = .seq c9 c10 := by kernel_rfl
noncomputable def r9 : Array Oper := match c9 with | .region _ x _ => x | _ => #[]
theorem e9 : c9 = .region 4 r9 false := by kernel_rfl
theorem e10 : c10 = .seq c11 c12 := by kernel_rfl
noncomputable def r11 : Array Oper := match c11 with | .region _ x _ => x | _ => #[]
theorem e11 : c11 = .region 5 r11 false := by kernel_rfl
theorem e12 : c12 = .seq c13 c14 := by kernel_rfl
noncomputable def r13 : Array Oper := match c13 with | .region _ x _ => x | _ => #[]
theorem e13 : c13 = .region 6 r13 false := by kernel_rfl
theorem e14 : c14 = .ret := by kernel_rfl
theorem body : Try.f6.body = some c0 := by kernel_rfl
section
variable {base : Nat} {W0 : World} {β0 : Bt}
def J3 (D : Dp) (H : Hd) (k : Nat) (y37 : Bool) (S : HS) : Option ((Bool) × HS) :=
  some (y37, S)
theorem J3_snd {D : Dp} {H : Hd} {k : Nat} (hD : DSound Try.prog base W0 D) (hH : HSound Try.prog base W0 β0 H)  {y37 : Bool} {S : HS} {p : (Bool) × HS} {g0 g1 g2 g3 g4 g5 g6 g7 g8 g9 g10 g11 g12 g13 g14 g15 g16 g17 g18 g19 g20 g21 g22 g23 g24 g25 g26 g27 g28 g29 g30 g31 g32 g33 g34 g35 g36 : HV} (h : J3 D H k y37 S = some p) : HRun Try.prog base W0 β0 6 none [.inRegion r13 [26], .code c14] ⟨[g0, g1, g2, g3, g4, g5, g6, g7, g8, g9, g10, g11, g12, g13, g14, g15, g16, g17, g18, g19, g20, g21, g22, g23, g24, g25, g26, g27, g28, g29, g30, g31, g32, g33, g34, g35, g36, (.bool y37)], []⟩ S (fun v S1 => v = (.bool p.1) ∧ S1 = p.2) := by
  unfold J3 at h
  refine q_op (dst := some 0) rfl (fun _ ho => ok_assign ho (.tmp rfl)) ?_
  refine hr_region_end ?_
  try dsimp only [HAct.put, List.set_cons_zero, List.set_cons_succ]
  cases h
  exact q_ret e14 at_.at_ rfl (res1 rfl rfl) ⟨rfl, rfl⟩
def J2 (D : Dp) (H : Hd) (k : Nat) (y1 : (Option HA)) (y32 : Bool) (S : HS) : Option ((Bool) × HS) :=
  (if y32 = true then
  (Option.bind (timer_Table_string_Len.f y1 S) fun p16 =>
  J3 D H k (decide (p16.1 = 0)) p16.2) else
  J3 D H k false S)
theorem J2_snd {D : Dp} {H : Hd} {k : Nat} (hD : DSound Try.prog base W0 D) (hH : HSound Try.prog base W0 β0 H)  {y1 : (Option HA)} {y32 : Bool} {S : HS} {p : (Bool) × HS} {g0 g2 g3 g4 g5 g6 g7 g8 g9 g10 g11 g12 g13 g14 g15 g16 g17 g18 g19 g20 g21 g22 g23 g24 g25 g26 g27 g28 g29 g30 g31 g33 g34 g35 g36 g37 : HV} (h : J2 D H k y1 y32 S = some p) : HRun Try.prog base W0 β0 6 none [.inRegion r13 [21, 22, 23, 24, 25, 26], .code c14] ⟨[g0, (.ptr y1), g2, g3, g4, g5, g6, g7, g8, g9, g10, g11, g12, g13, g14, g15, g16, g17, g18, g19, g20, g21, g22, g23, g24, g25, g26, g27, g28, g29, g30, g31, (.bool y32), g33, g34, g35, g36, g37], []⟩ S (fun v S1 => v = (.bool p.1) ∧ S1 = p.2) := by
  unfold J2 at h
  refine q_op (dst := some 33) rfl (fun _ ho => ok_move ho (.tmp rfl)) ?_
  rcases ifc h with ⟨hc15, h⟩ | ⟨hc15, h⟩
  · refine q_op_g (t := 33) (dst := some 34) rfl rfl rfl hc15 (fun _ ho => ok_move ho (.tmp rfl)) ?_
    obtain ⟨p16, hp16, h⟩ := bindo h
    refine q_call_g (t := 33) (dst := some 35) rfl rfl rfl hc15 (.func _) (.cons (.tmp rfl) Evs.nil) (HInv.static timer_Table_string_Len.at_ timer_Table_string_Len.body (timer_Table_string_Len.snd  hp16)) ?_
    rintro _ _ ⟨rfl, rfl⟩
    try dsimp only [HAct.put, List.set_cons_zero, List.set_cons_succ]
    refine q_op_g (t := 33) (dst := some 36) rfl rfl rfl hc15 (fun _ ho => ok_ibin ho (.tmp rfl) (.int _ _) rfl) ?_
    refine q_op (dst := some 37) rfl (fun _ ho => ok_pick_tt ho (.tmp rfl) hc15 (.tmp rfl)) ?_
    try dsimp only [HAct.put, List.set_cons_zero, List.set_cons_succ]
    exact J3_snd hD hH h
  · refine q_skip (dst := some 34) (t := 33) rfl rfl rfl (bfalse hc15) ?_
    refine q_skip (dst := some 35) (t := 33) rfl rfl rfl (bfalse hc15) ?_
    try dsimp only [HAct.put, List.set_cons_zero, List.set_cons_succ]
    refine q_skip (dst := some 36) (t := 33) rfl rfl rfl (bfalse hc15) ?_
    refine q_op (dst := some 37) rfl (fun _ ho => ok_pick_ff ho (.tmp rfl) (bfalse hc15) (.bool _)) ?_
    try dsimp only [HAct.put, List.set_cons_zero, List.set_cons_succ]
    exact J3_snd hD hH h
def J1 (D : Dp) (H : Hd) (k : Nat) (y1 : (Option HA)) (y2 : Sl) (y26 : Bool) (S : HS) : Option ((Bool) × HS) :=
  (if y26 = true then
  (Option.bind (HS.idx S y2 2 1) fun p13 =>
  (Option.bind (HS.ldS S p13) fun p14 =>
  J2 D H k y1 (decide (p14 = ([98] : List UInt8))) S)) else
  J2 D H k y1 false S)
theorem J1_snd {D : Dp} {H : Hd} {k : Nat} (hD : DSound Try.prog base W0 D) (hH : HSound Try.prog base W0 β0 H)  {y1 : (Option HA)} {y2 : Sl} {y26 : Bool} {S : HS} {p : (Bool) × HS} {g0 g3 g4 g5 g6 g7 g8 g9 g10 g11 g12 g13 g14 g15 g16 g17 g18 g19 g20 g21 g22 g23 g24 g25 g27 g28 g29 g30 g31 g32 g33 g34 g35 g36 g37 : HV} (h : J1 D H k y1 y2 y26 S = some p) : HRun Try.prog base W0 β0 6 none [.inRegion r13 [15, 16, 17, 18, 19, 20, 21, 22, 23, 24, 25, 26], .code c14] ⟨[g0, (.ptr y1), (Sl.hv y2), g3, g4, g5, g6, g7, g8, g9, g10, g11, g12, g13, g14, g15, g16, g17, g18, g19, g20, g21, g22, g23, g24, g25, (.bool y26), g27, g28, g29, g30, g31, g32, g33, g34, g35, g36, g37], []⟩ S (fun v S1 => v = (.bool p.1) ∧ S1 = p.2) := by
  unfold J1 at h
  refine q_op (dst := some 27) rfl (fun _ ho => ok_move ho (.tmp rfl)) ?_
  try dsimp only [HAct.put, List.set_cons_zero, List.set_cons_succ]
  rcases ifc h with ⟨hc12, h⟩ | ⟨hc12, h⟩
  · refine q_op_g (t := 27) (dst := some 28) rfl rfl rfl hc12 (fun _ ho => ok_move ho (.tmp rfl)) ?_
    obtain ⟨p13, hp13, h⟩ := bindo h
    refine q_op_g (t := 27) (dst := some 29) rfl rfl rfl hc12 (fun _ ho => ok_indexAddr (s := y2) ho tu34 sz9 (.tmp rfl) (.int _ _) hp13) ?_
    obtain ⟨p14, hp14, h⟩ := bindo h
    refine q_op_g (t := 27) (dst := some 30) rfl rfl rfl hc12 (fun _ ho => ok_load_s ho sc9 (.tmp rfl) rfl (ldS_out hp14)) ?_
    refine q_op_g (t := 27) (dst := some 31) rfl rfl rfl hc12 (fun _ ho => ok_sbin ho (.tmp rfl) (.str _) rfl) ?_
    try dsimp only [HAct.put, List.set_cons_zero, List.set_cons_succ]
    refine q_op (dst := some 32) rfl (fun _ ho => ok_pick_tt ho (.tmp rfl) hc12 (.tmp rfl)) ?_
    try dsimp only [HAct.put, List.set_cons_zero, List.set_cons_succ]
    exact J2_snd hD hH h
  · refine q_skip (dst := some 28) (t := 27) rfl rfl rfl (bfalse hc12) ?_
    refine q_skip (dst := some 29) (t := 27) rfl rfl rfl (bfalse hc12) ?_
    refine q_skip (dst := some 30) (t := 27) rfl rfl rfl (bfalse hc12) ?_
    refine q_skip (dst := some 31) (t := 27) rfl rfl rfl (bfalse hc12) ?_
    try dsimp only [HAct.put, List.set_cons_zero, List.set_cons_succ]
    refine q_op (dst := some 32) rfl (fun _ ho => ok_pick_ff ho (.tmp rfl) (bfalse hc12) (.bool _)) ?_
    try dsimp only [HAct.put, List.set_cons_zero, List.set_cons_succ]
    exact J2_snd hD hH h
def J0 (D : Dp) (H : Hd) (k : Nat) (y1 : (Option HA)) (y2 : Sl) (y20 : Bool) (S : HS) : Option ((Bool) × HS) :=
  (if y20 = true then
  (Option.bind (HS.idx S y2 1 1) fun p10 =>
  (Option.bind (HS.ldS S p10) fun p11 =>
  J1 D H k y1 y2 (decide (p11 = ([97] : List UInt8))) S)) else
  J1 D H k y1 y2 false S)
theorem J0_snd {D : Dp} {H : Hd} {k : Nat} (hD : DSound Try.prog base W0 D) (hH : HSound Try.prog base W0 β0 H)  {y1 : (Option HA)} {y2 : Sl} {y20 : Bool} {S : HS} {p : (Bool) × HS} {g0 g3 g4 g5 g6 g7 g8 g9 g10 g11 g12 g13 g14 g15 g16 g17 g18 g19 g21 g22 g23 g24 g25 g26 g27 g28 g29 g30 g31 g32 g33 g34 g35 g36 g37 : HV} (h : J0 D H k y1 y2 y20 S = some p) : HRun Try.prog base W0 β0 6 none [.inRegion r13 [9, 10, 11, 12, 13, 14, 15, 16, 17, 18, 19, 20, 21, 22, 23, 24, 25, 26], .code c14] ⟨[g0, (.ptr y1), (Sl.hv y2), g3, g4, g5, g6, g7, g8, g9, g10, g11, g12, g13, g14, g15, g16, g17, g18, g19, (.bool y20), g21, g22, g23, g24, g25, g26, g27, g28, g29, g30, g31, g32, g33, g34, g35, g36, g37], []⟩ S (fun v S1 => v = (.bool p.1) ∧ S1 = p.2) := by
  unfold J0 at h
  refine q_op (dst := some 21) rfl (fun _ ho => ok_move ho (.tmp rfl)) ?_
  rcases ifc h with ⟨hc9, h⟩ | ⟨hc9, h⟩
  · refine q_op_g (t := 21) (dst := some 22) rfl rfl rfl hc9 (fun _ ho => ok_move ho (.tmp rfl)) ?_
    obtain ⟨p10, hp10, h⟩ := bindo h
    refine q_op_g (t := 21) (dst := some 23) rfl rfl rfl hc9 (fun _ ho => ok_indexAddr (s := y2) ho tu34 sz9 (.tmp rfl) (.int _ _) hp10) ?_
    try dsimp only [HAct.put, List.set_cons_zero, List.set_cons_succ]
    obtain ⟨p11, hp11, h⟩ := bindo h
    refine q_op_g (t := 21) (dst := some 24) rfl rfl rfl hc9 (fun _ ho => ok_load_s ho sc9 (.tmp rfl) rfl (ldS_out hp11)) ?_
    refine q_op_g (t := 21) (dst := some 25) rfl rfl rfl hc9 (fun _ ho => ok_sbin ho (.tmp rfl) (.str _) rfl) ?_
    refine q_op (dst := some 26) rfl (fun _ ho => ok_pick_tt ho (.tmp rfl) hc9 (.tmp rfl)) ?_
    try dsimp only [HAct.put, List.set_cons_zero, List.set_cons_succ]
    exact J1_snd hD hH h
  · refine q_skip (dst := some 22) (t := 21) rfl rfl rfl (bfalse hc9) ?_
    refine q_skip (dst := some 23) (t := 21) rfl rfl rfl (bfalse hc9) ?_
    try dsimp only [HAct.put, List.set_cons_zero, List.set_cons_succ]
    refine q_skip (dst := some 24) (t := 21) rfl rfl rfl (bfalse hc9) ?_
    refine q_skip (dst := some 25) (t := 21) rfl rfl rfl (bfalse hc9) ?_
    refine q_op (dst := some 26) rfl (fun _ ho => ok_pick_ff ho (.tmp rfl) (bfalse hc9) (.bool _)) ?_
    try dsimp only [HAct.put, List.set_cons_zero, List.set_cons_succ]
    exact J1_snd hD hH h
def f (D : Dp) (H : Hd) (k : Nat) (S : HS) : Option ((Bool) × HS) :=
  (Option.bind (timer_New_string.f S) fun p1 =>
  (Option.bind (timer_Table_string_Set.f D H k p1.1 ([98] : List UInt8) 5 p1.2) fun p2 =>
  (Option.bind (timer_Table_string_Set.f D H k p1.1 ([97] : List UInt8) 5 p2.2) fun p3 =>
  (Option.bind (timer_Table_string_Set.f D H k p1.1 ([99] : List UInt8) 3 p3.2) fun p4 =>
  (Option.bind (timer_Table_string_Take.f D H k p1.1 5 p4.2) fun p5 =>
  (if (Sl.len p5.1 : Int) = 3 then
  (Option.bind (HS.idx p5.2 p5.1 0 1) fun p7 =>
  (Option.bind (HS.ldS p5.2 p7) fun p8 =>
  J0 D H k p1.1 p5.1 (decide (p8 = ([99] : List UInt8))) p5.2)) else
  J0 D H k p1.1 p5.1 false p5.2))))))
theorem snd {D : Dp} {H : Hd} {k : Nat} {S : HS} (hD : DSound Try.prog base W0 D) (hH : HSound Try.prog base W0 β0 H)  {p : (Bool) × HS} (h : f D H k S = some p) : HCall Try.prog base W0 β0 6 [] S (fun v S1 => v = (.bool p.1) ∧ S1 = p.2) := by
  unfold f at h
  refine HCall.of_run at_.at_ body ?_
  show HRun Try.prog base W0 β0 6 none [.code c0] ⟨[.tup [], .tup [], .tup [], .tup [], .tup [], .tup [], .tup [], .tup [], .tup [], .tup [], .tup [], .tup [], .tup [], .tup [], .tup [], .tup [], .tup [], .tup [], .tup [], .tup [], .tup [], .tup [], .tup [], .tup [], .tup [], .tup [], .tup [], .tup [], .tup [], .tup [], .tup [], .tup [], .tup [], .tup [], .tup [], .tup [], .tup [], .tup []], []⟩ S _
  refine q_seq e0 ?_
  refine q_region e1 rfl ?_
  refine q_op (dst := some 0) rfl (fun _ ho => ok_assign ho (.bool _)) ?_
  refine hr_region_end ?_
  try dsimp only [HAct.put, List.set_cons_zero, List.set_cons_succ]
  refine q_seq e2 ?_
  refine q_region e3 rfl ?_
  obtain ⟨p1, hp1, h⟩ := bindo h
  refine q_call (dst := some 3) rfl (.func _) Evs.nil (HInv.static timer_New_string.at_ timer_New_string.body (timer_New_string.snd  hp1)) ?_
  rintro _ _ ⟨rfl, rfl⟩
  refine q_op (dst := some 1) rfl (fun _ ho => ok_assign ho (.tmp rfl)) ?_
  refine hr_region_end ?_
  try dsimp only [HAct.put, List.set_cons_zero, List.set_cons_succ]
  refine q_seq e4 ?_
  refine q_region e5 rfl ?_
  refine q_op (dst := some 4) rfl (fun _ ho => ok_move ho (.tmp rfl)) ?_
  obtain ⟨p2, hp2, h⟩ := bindo h
  refine q_call (dst := some 5) rfl (.func _) (.cons (.tmp rfl) (.cons (.str _) (.cons (.int _ _) Evs.nil))) (HInv.static timer_Table_string_Set.at_ timer_Table_string_Set.body (timer_Table_string_Set.snd hD hH hp2)) ?_
  rintro _ _ ⟨rfl, rfl⟩
  refine hr_region_end ?_
  try dsimp only [HAct.put, List.set_cons_zero, List.set_cons_succ]
  refine q_seq e6 ?_
  refine q_region e7 rfl ?_
  refine q_op (dst := some 6) rfl (fun _ ho => ok_move ho (.tmp rfl)) ?_
  obtain ⟨p3, hp3, h⟩ := bindo h
  refine q_call (dst := some 7) rfl (.func _) (.cons (.tmp rfl) (.cons (.str _) (.cons (.int _ _) Evs.nil))) (HInv.static timer_Table_string_Set.at_ timer_Table_string_Set.body (timer_Table_string_Set.snd hD hH hp3)) ?_
  rintro _ _ ⟨rfl, rfl⟩
  refine hr_region_end ?_
  try dsimp only [HAct.put, List.set_cons_zero, List.set_cons_succ]
  refine q_seq e8 ?_
  refine q_region e9 rfl ?_
  refine q_op (dst := some 8) rfl (fun _ ho => ok_move ho (.tmp rfl)) ?_
  obtain ⟨p4, hp4, h⟩ := bindo h
  refine q_call (dst := some 9) rfl (.func _) (.cons (.tmp rfl) (.cons (.str _) (.cons (.int _ _) Evs.nil))) (HInv.static timer_Table_string_Set.at_ timer_Table_string_Set.body (timer_Table_string_Set.snd hD hH hp4)) ?_
  rintro _ _ ⟨rfl, rfl⟩
  refine hr_region_end ?_
  try dsimp only [HAct.put, List.set_cons_zero, List.set_cons_succ]
  refine q_seq e10 ?_
  refine q_region e11 rfl ?_
  refine q_op (dst := some 10) rfl (fun _ ho => ok_move ho (.tmp rfl)) ?_
  obtain ⟨p5, hp5, h⟩ := bindo h
  refine q_call (dst := some 11) rfl (.func _) (.cons (.tmp rfl) (.cons (.int _ _) Evs.nil)) (HInv.static timer_Table_string_Take.at_ timer_Table_string_Take.body (timer_Table_string_Take.snd hD hH hp5)) ?_
  rintro _ _ ⟨rfl, rfl⟩
  refine q_op (dst := some 2) rfl (fun _ ho => ok_assign ho (.tmp rfl)) ?_
  refine hr_region_end ?_
  try dsimp only [HAct.put, List.set_cons_zero, List.set_cons_succ]
  refine q_seq e12 ?_
  refine q_region e13 rfl ?_
  refine q_op (dst := some 12) rfl (fun _ ho => ok_move ho (.tmp rfl)) ?_
  refine q_op (dst := some 13) rfl (fun _ ho => ok_len_sl (q := Sl.a p5.1) (n := Sl.len p5.1) (z := Sl.cap p5.1) ho rfl tu34 (.tmp rfl)) ?_
  refine q_op (dst := some 14) rfl (fun _ ho => ok_ibin ho (.tmp rfl) (.int _ _) rfl) ?_
  refine q_op (dst := some 15) rfl (fun _ ho => ok_move ho (.tmp rfl)) ?_
  try dsimp only [HAct.put, List.set_cons_zero, List.set_cons_succ]
  rcases ifc h with ⟨hc6, h⟩ | ⟨hc6, h⟩
  · refine q_op_g (t := 15) (dst := some 16) rfl rfl rfl (decide_eq_true hc6) (fun _ ho => ok_move ho (.tmp rfl)) ?_
    obtain ⟨p7, hp7, h⟩ := bindo h
    refine q_op_g (t := 15) (dst := some 17) rfl rfl rfl (decide_eq_true hc6) (fun _ ho => ok_indexAddr (s := p5.1) ho tu34 sz9 (.tmp rfl) (.int _ _) hp7) ?_
    obtain ⟨p8, hp8, h⟩ := bindo h
    refine q_op_g (t := 15) (dst := some 18) rfl rfl rfl (decide_eq_true hc6) (fun _ ho => ok_load_s ho sc9 (.tmp rfl) rfl (ldS_out hp8)) ?_
    refine q_op_g (t := 15) (dst := some 19) rfl rfl rfl (decide_eq_true hc6) (fun _ ho => ok_sbin ho (.tmp rfl) (.str _) rfl) ?_
    try dsimp only [HAct.put, List.set_cons_zero, List.set_cons_succ]
    refine q_op (dst := some 20) rfl (fun _ ho => ok_pick_tt ho (.tmp rfl) (decide_eq_true hc6) (.tmp rfl)) ?_
    try dsimp only [HAct.put, List.set_cons_zero, List.set_cons_succ]
    exact J0_snd hD hH h
  · refine q_skip (dst := some 16) (t := 15) rfl rfl rfl (decide_eq_false hc6) ?_
    refine q_skip (dst := some 17) (t := 15) rfl rfl rfl (decide_eq_false hc6) ?_
    refine q_skip (dst := some 18) (t := 15) rfl rfl rfl (decide_eq_false hc6) ?_
    refine q_skip (dst := some 19) (t := 15) rfl rfl rfl (decide_eq_false hc6) ?_
    try dsimp only [HAct.put, List.set_cons_zero, List.set_cons_succ]
    refine q_op (dst := some 20) rfl (fun _ ho => ok_pick_ff ho (.tmp rfl) (decide_eq_false hc6) (.bool _)) ?_
    try dsimp only [HAct.put, List.set_cons_zero, List.set_cons_succ]
    exact J0_snd hD hH h
end
end rollcalllaw09_awake
namespace rollcalllaw09_great
abbrev id : Nat := 7
theorem at_ : FnAt Try.prog 7 Try.f7 := ⟨Try.func7, by kernel_rfl⟩
noncomputable def c0 : Code := (Try.f7.body).getD .skip
noncomputable def c1 : Code := match c0 with | .seq x _ => x | _ => .skip
noncomputable def c2 : Code := match c0 with | .seq _ x => x | _ => .skip
noncomputable def c3 : Code := match c2 with | .seq x _ => x | _ => .skip
noncomputable def c4 : Code := match c3 with | .seq x _ => x | _ => .skip
noncomputable def c5 : Code := match c3 with | .seq _ x => x | _ => .skip
noncomputable def c6 : Code := match c5 with | .cond _ x _ => x | _ => .skip
noncomputable def c7 : Code := match c6 with | .seq x _ => x | _ => .skip
noncomputable def c8 : Code := match c6 with | .seq _ x => x | _ => .skip
noncomputable def c9 : Code := match c5 with | .cond _ _ x => x | _ => .skip
noncomputable def c10 : Code := match c2 with | .seq _ x => x | _ => .skip
noncomputable def c11 : Code := match c10 with | .seq x _ => x | _ => .skip
noncomputable def c12 : Code := match c11 with | .seq x _ => x | _ => .skip
noncomputable def c13 : Code := match c11 with | .seq _ x => x | _ => .skip
noncomputable def c14 : Code := match c13 with | .block _ x => x | _ => .skip
noncomputable def c15 : Code := match c14 with | .loop x => x | _ => .skip
noncomputable def c16 : Code := match c15 with | .seq x _ => x | _ => .skip
noncomputable def c17 : Code := match c16 with | .seq x _ => x | _ => .skip
noncomputable def c18 : Code := match c16 with | .seq _ x => x | _ => .skip
noncomputable def c19 : Code := match c18 with | .cond _ x _ => x | _ => .skip
noncomputable def c20 : Code := match c18 with | .cond _ _ x => x | _ => .skip
noncomputable def c21 : Code := match c15 with | .seq _ x => x | _ => .skip
noncomputable def c22 : Code := match c21 with | .seq x _ => x | _ => .skip
noncomputable def c23 : Code := match c22 with | .block _ x => x | _ => .skip
noncomputable def c24 : Code := match c23 with | .seq x _ => x | _ => .skip
noncomputable def c25 : Code := match c23 with | .seq _ x => x | _ => .skip
noncomputable def c26 : Code := match c25 with | .cond _ x _ => x | _ => .skip
noncomputable def c27 : Code := match c26 with | .seq x _ => x | _ => .skip
noncomputable def c28 : Code := match c26 with | .seq _ x => x | _ => .skip
noncomputable def c29 : Code := match c25 with | .cond _ _ x => x | _ => .skip
noncomputable def c30 : Code := match c21 with | .seq _ x => x | _ => .skip
noncomputable def c31 : Code := match c10 with | .seq _ x => x | _ => .skip
noncomputable def c32 : Code := match c31 with | .seq x _ => x | _ => .skip
noncomputable def c33 : Code := match c31 with | .seq _ x => x | _ => .skip
theorem e0 : c0 = .seq c1 c2 := by kernel_rfl
noncomputable def r1 : Array Oper := match c1 with | .region _ x _ => x | _ => #[]
theorem e1 : c1 = .region 0 r1 false := by kernel_rfl
theorem e2 : c2 = .seq c3 c10 := by kernel_rfl
theorem e3 : c3 = .seq c4 c5 := by kernel_rfl
noncomputable def r4 : Array Oper := match c4 with | .region _ x _ => x | _ => #[]
theorem e4 : c4 = .region 1 r4 false := by kernel_rfl
theorem e5 : c5 = .cond (.tmp 6) c6 c9 := by kernel_rfl
theorem e6 : c6 = .seq c7 c8 := by kernel_rfl
noncomputable def r7 : Array Oper := match c7 with | .region _ x _ => x | _ => #[]
theorem e7 : c7 = .region 2 r7 false := by kernel_rfl
theorem e8 : c8 = .ret := by kernel_rfl
theorem e9 : c9 = .skip := by kernel_rfl
theorem e10 : c10 = .seq c11 c31 := by kernel_rfl
theorem e11 : c11 = .seq c12 c13 := by kernel_rfl
noncomputable def r12 : Array Oper := match c12 with | .region _ x _ => x | _ => #[]
theorem e12 : c12 = .region 3 r12 false := by kernel_rfl
theorem e13 : c13 = .block 0 c14 := by kernel_rfl
theorem e14 : c14 = .loop c15 := by kernel_rfl
theorem e15 : c15 = .seq c16 c21 := by kernel_rfl
theorem e16 : c16 = .seq c17 c18 := by kernel_rfl
noncomputable def r17 : Array Oper := match c17 with | .region _ x _ => x | _ => #[]
theorem e17 : c17 = .region 4 r17 false := by kernel_rfl
theorem e18 : c18 = .cond (.tmp 10) c19 c20 := by kernel_rfl
theorem e19 : c19 = .skip := by kernel_rfl
theorem e20 : c20 = .exit 0 := by kernel_rfl
theorem e21 : c21 = .seq c22 c30 := by kernel_rfl
theorem e22 : c22 = .block 1 c23 := by kernel_rfl
theorem e23 : c23 = .seq c24 c25 := by kernel_rfl
noncomputable def r24 : Array Oper := match c24 with | .region _ x _ => x | _ => #[]
theorem e24 : c24 = .region 6 r24 false := by kernel_rfl
theorem e25 : c25 = .cond (.tmp 19) c26 c29 := by kernel_rfl
theorem e26 : c26 = .seq c27 c28 := by kernel_rfl
noncomputable def r27 : Array Oper := match c27 with | .region _ x _ => x | _ => #[]
theorem e27 : c27 = .region 7 r27 false := by kernel_rfl
theorem e28 : c28 = .ret := by kernel_rfl
theorem e29 : c29 = .skip := by kernel_rfl
noncomputable def r30 : Array Oper := match c30 with | .region _ x _ => x | _ => #[]
theorem e30 : c30 = .region 5 r30 false := by kernel_rfl
theorem e31 : c31 = .seq c32 c33 := by kernel_rfl
noncomputable def r32 : Array Oper := match c32 with | .region _ x _ => x | _ => #[]
theorem e32 : c32 = .region 8 r32 false := by kernel_rfl
theorem e33 : c33 = .ret := by kernel_rfl
theorem body : Try.f7.body = some c0 := by kernel_rfl
section
variable {base : Nat} {W0 : World} {β0 : Bt}
def L0 (k : Nat) : Nat → Sl → Int → HS → Option ((Bool) × HS)
  | 0, _, _, _ => none
  | n + 1, y0, y3, S =>
    (if y3 < (Sl.len y0 : Int) then
    (Option.bind (HS.idx S y0 y3 3) fun p3 =>
    (Option.bind (HS.ldS S (HA.fld p3 1)) fun p4 =>
    (if (List.length p4 : Int) > 20 then
    some (true, S) else
    (L0 k n) y0 (w64 (y3 + 1)) S))) else
    some (false, S))
theorem L0_snd {k : Nat}  : ∀ {n : Nat} ⦃y0 : Sl⦄ ⦃y3 : Int⦄ ⦃S : HS⦄ ⦃p : (Bool) × HS⦄ ⦃g1 g2 g4 g5 g6 g7 g8 g9 g10 g11 g12 g13 g14 g15 g16 g17 g18 g19 : HV⦄, L0 k n y0 y3 S = some p → HRun Try.prog base W0 β0 7 none [.inLoop c15, .inBlock 0, .code c31] ⟨[(Sl.hv y0), g1, g2, (.int .i64 y3), g4, g5, g6, g7, g8, g9, g10, g11, g12, g13, g14, g15, g16, g17, g18, g19], []⟩ S (fun v S1 => v = (.bool p.1) ∧ S1 = p.2) := by
  intro n
  induction n with
  | zero => intro _ _ _ _ _ _ _ _ _ _ _ _ _ _ _ _ _ _ _ _ _ _ h; cases h
  | succ n ih =>
    intro y0 y3 S p g1 g2 g4 g5 g6 g7 g8 g9 g10 g11 g12 g13 g14 g15 g16 g17 g18 g19 h
    simp only [L0] at h
    refine hr_inLoop ?_
    refine q_seq e15 ?_
    refine q_seq e16 ?_
    refine q_region e17 rfl ?_
    refine q_op (dst := some 7) rfl (fun _ ho => ok_move ho (.tmp rfl)) ?_
    refine q_op (dst := some 8) rfl (fun _ ho => ok_move ho (.tmp rfl)) ?_
    refine q_op (dst := some 9) rfl (fun _ ho => ok_len_sl (q := Sl.a y0) (n := Sl.len y0) (z := Sl.cap y0) ho rfl tu22 (.tmp rfl)) ?_
    refine q_op (dst := some 10) rfl (fun _ ho => ok_ibin ho (.tmp rfl) (.tmp rfl) rfl) ?_
    refine hr_region_end ?_
    try dsimp only [HAct.put, List.set_cons_zero, List.set_cons_succ]
    rcases ifc h with ⟨hc2, h⟩ | ⟨hc2, h⟩
    · refine q_cond_t e18 (.tmp rfl) (decide_eq_true hc2) ?_
      refine q_skipc e19 ?_
      refine q_seq e21 ?_
      refine q_block e22 ?_
      refine q_seq e23 ?_
      refine q_region e24 rfl ?_
      refine q_op (dst := some 13) rfl (fun _ ho => ok_move ho (.tmp rfl)) ?_
      refine q_op (dst := some 14) rfl (fun _ ho => ok_move ho (.tmp rfl)) ?_
      obtain ⟨p3, hp3, h⟩ := bindo h
      refine q_op (dst := some 15) rfl (fun _ ho => ok_indexAddr (s := y0) ho tu22 sz32 (.tmp rfl) (.tmp rfl) hp3) ?_
      refine q_op (dst := some 16) rfl (fun _ ho => ok_fieldAddr_s ho fi32_1 (by decide) (.tmp rfl) rfl) ?_
      try dsimp only [HAct.put, List.set_cons_zero, List.set_cons_succ]
      obtain ⟨p4, hp4, h⟩ := bindo h
      refine q_op (dst := some 17) rfl (fun _ ho => ok_load_s ho sc9 (.tmp rfl) rfl (ldS_out hp4)) ?_
      refine q_op (dst := some 18) rfl (fun _ ho => ok_len_str ho rfl tu9 (.tmp rfl)) ?_
      refine q_op (dst := some 19) rfl (fun _ ho => ok_ibin ho (.tmp rfl) (.int _ _) rfl) ?_
      refine hr_region_end ?_
      try dsimp only [HAct.put, List.set_cons_zero, List.set_cons_succ]
      rcases ifc h with ⟨hc5, h⟩ | ⟨hc5, h⟩
      · refine q_cond_t e25 (.tmp rfl) (decide_eq_true hc5) ?_
        refine q_seq e26 ?_
        refine q_region e27 rfl ?_
        refine q_op (dst := some 2) rfl (fun _ ho => ok_assign ho (.bool _)) ?_
        refine hr_region_end ?_
        try dsimp only [HAct.put, List.set_cons_zero, List.set_cons_succ]
        cases h
        exact q_ret e28 at_.at_ rfl (res1 rfl rfl) ⟨rfl, rfl⟩
      · refine q_cond_f e25 (.tmp rfl) (decide_eq_false hc5) ?_
        refine q_skipc e29 ?_
        refine hr_inBlock ?_
        refine q_region e30 rfl ?_
        refine q_op (dst := some 11) rfl (fun _ ho => ok_move ho (.tmp rfl)) ?_
        refine q_op (dst := some 12) rfl (fun _ ho => ok_ibin ho (.tmp rfl) (.int _ _) rfl) ?_
        refine q_op (dst := some 3) rfl (fun _ ho => ok_assign ho (.tmp rfl)) ?_
        refine hr_region_end ?_
        try dsimp only [HAct.put, List.set_cons_zero, List.set_cons_succ]
        try dsimp only [HAct.put, List.set_cons_zero, List.set_cons_succ]
        exact ih h
    · refine q_cond_f e18 (.tmp rfl) (decide_eq_false hc2) ?_
      refine q_exit e20 rfl ?_
      refine q_seq e31 ?_
      refine q_region e32 rfl ?_
      refine q_op (dst := some 2) rfl (fun _ ho => ok_assign ho (.bool _)) ?_
      refine hr_region_end ?_
      try dsimp only [HAct.put, List.set_cons_zero, List.set_cons_succ]
      cases h
      exact q_ret e33 at_.at_ rfl (res1 rfl rfl) ⟨rfl, rfl⟩
def f (k : Nat) (x0 : Sl) (S : HS) : Option ((Bool) × HS) :=
  (if (Sl.len x0 : Int) > 40 then
  some (true, S) else
  L0 k k x0 0 S)
theorem snd {k : Nat} {x0 : Sl} {S : HS}  {p : (Bool) × HS} (h : f k x0 S = some p) : HCall Try.prog base W0 β0 7 [(Sl.hv x0)] S (fun v S1 => v = (.bool p.1) ∧ S1 = p.2) := by
  unfold f at h
  refine HCall.of_run at_.at_ body ?_
  show HRun Try.prog base W0 β0 7 none [.code c0] ⟨[(Sl.hv x0), .tup [], .tup [], .tup [], .tup [], .tup [], .tup [], .tup [], .tup [], .tup [], .tup [], .tup [], .tup [], .tup [], .tup [], .tup [], .tup [], .tup [], .tup [], .tup []], []⟩ S _
  refine q_seq e0 ?_
  refine q_region e1 rfl ?_
  refine q_op (dst := some 2) rfl (fun _ ho => ok_assign ho (.bool _)) ?_
  refine hr_region_end ?_
  try dsimp only [HAct.put, List.set_cons_zero, List.set_cons_succ]
  refine q_seq e2 ?_
  refine q_seq e3 ?_
  refine q_region e4 rfl ?_
  refine q_op (dst := some 4) rfl (fun _ ho => ok_move ho (.tmp rfl)) ?_
  refine q_op (dst := some 5) rfl (fun _ ho => ok_len_sl (q := Sl.a x0) (n := Sl.len x0) (z := Sl.cap x0) ho rfl tu22 (.tmp rfl)) ?_
  refine q_op (dst := some 6) rfl (fun _ ho => ok_ibin ho (.tmp rfl) (.int _ _) rfl) ?_
  refine hr_region_end ?_
  try dsimp only [HAct.put, List.set_cons_zero, List.set_cons_succ]
  rcases ifc h with ⟨hc1, h⟩ | ⟨hc1, h⟩
  · refine q_cond_t e5 (.tmp rfl) (decide_eq_true hc1) ?_
    refine q_seq e6 ?_
    refine q_region e7 rfl ?_
    refine q_op (dst := some 2) rfl (fun _ ho => ok_assign ho (.bool _)) ?_
    refine hr_region_end ?_
    try dsimp only [HAct.put, List.set_cons_zero, List.set_cons_succ]
    cases h
    exact q_ret e8 at_.at_ rfl (res1 rfl rfl) ⟨rfl, rfl⟩
  · refine q_cond_f e5 (.tmp rfl) (decide_eq_false hc1) ?_
    refine q_skipc e9 ?_
    refine q_seq e10 ?_
    refine q_seq e11 ?_
    refine q_region e12 rfl ?_
    refine q_op (dst := some 3) rfl (fun _ ho => ok_assign ho (.int _ _)) ?_
    refine hr_region_end ?_
    try dsimp only [HAct.put, List.set_cons_zero, List.set_cons_succ]
    refine q_block e13 ?_
    refine q_loop e14 ?_
    try dsimp only [HAct.put, List.set_cons_zero, List.set_cons_succ]
    exact L0_snd  h
end
end rollcalllaw09_great
namespace rollcallref09_Table_At
abbrev id : Nat := 16
theorem at_ : FnAt Try.prog 16 Try.f16 := ⟨Try.func16, by kernel_rfl⟩
noncomputable def c0 : Code := (Try.f16.body).getD .skip
noncomputable def c1 : Code := match c0 with | .seq x _ => x | _ => .skip
noncomputable def c2 : Code := match c0 with | .seq _ x => x | _ => .skip
noncomputable def c3 : Code := match c2 with | .seq x _ => x | _ => .skip
noncomputable def c4 : Code := match c3 with | .seq x _ => x | _ => .skip
noncomputable def c5 : Code := match c3 with | .seq _ x => x | _ => .skip
noncomputable def c6 : Code := match c5 with | .block _ x => x | _ => .skip
noncomputable def c7 : Code := match c6 with | .loop x => x | _ => .skip
noncomputable def c8 : Code := match c7 with | .seq x _ => x | _ => .skip
noncomputable def c9 : Code := match c8 with | .seq x _ => x | _ => .skip
noncomputable def c10 : Code := match c8 with | .seq _ x => x | _ => .skip
noncomputable def c11 : Code := match c10 with | .cond _ x _ => x | _ => .skip
noncomputable def c12 : Code := match c10 with | .cond _ _ x => x | _ => .skip
noncomputable def c13 : Code := match c7 with | .seq _ x => x | _ => .skip
noncomputable def c14 : Code := match c13 with | .seq x _ => x | _ => .skip
noncomputable def c15 : Code := match c14 with | .block _ x => x | _ => .skip
noncomputable def c16 : Code := match c15 with | .seq x _ => x | _ => .skip
noncomputable def c17 : Code := match c15 with | .seq _ x => x | _ => .skip
noncomputable def c18 : Code := match c17 with | .cond _ x _ => x | _ => .skip
noncomputable def c19 : Code := match c18 with | .seq x _ => x | _ => .skip
noncomputable def c20 : Code := match c18 with | .seq _ x => x | _ => .skip
noncomputable def c21 : Code := match c17 with | .cond _ _ x => x | _ => .skip
noncomputable def c22 : Code := match c13 with | .seq _ x => x | _ => .skip
noncomputable def c23 : Code := match c2 with | .seq _ x => x | _ => .skip
noncomputable def c24 : Code := match c23 with | .seq x _ => x | _ => .skip
noncomputable def c25 : Code := match c23 with | .seq _ x => x | _ => .skip
theorem e0 : c0 = .seq c1 c2 := by kernel_rfl
noncomputable def r1 : Array Oper := match c1 with | .region _ x _ => x | _ => #[]
theorem e1 : c1 = .region 0 r1 false := by kernel_rfl
theorem e2 : c2 = .seq c3 c23 := by kernel_rfl
theorem e3 : c3 = .seq c4 c5 := by kernel_rfl
noncomputable def r4 : Array Oper := match c4 with | .region _ x _ => x | _ => #[]
theorem e4 : c4 = .region 1 r4 false := by kernel_rfl
theorem e5 : c5 = .block 0 c6 := by kernel_rfl
theorem e6 : c6 = .loop c7 := by kernel_rfl
theorem e7 : c7 = .seq c8 c13 := by kernel_rfl
theorem e8 : c8 = .seq c9 c10 := by kernel_rfl
noncomputable def r9 : Array Oper := match c9 with | .region _ x _ => x | _ => #[]
theorem e9 : c9 = .region 2 r9 false := by kernel_rfl
theorem e10 : c10 = .cond (.tmp 12) c11 c12 := by kernel_rfl
theorem e11 : c11 = .skip := by kernel_rfl
theorem e12 : c12 = .exit 0 := by kernel_rfl
theorem e13 : c13 = .seq c14 c22 := by kernel_rfl
theorem e14 : c14 = .block 1 c15 := by kernel_rfl
theorem e15 : c15 = .seq c16 c17 := by kernel_rfl
noncomputable def r16 : Array Oper := match c16 with | .region _ x _ => x | _ => #[]
theorem e16 : c16 = .region 4 r16 false := by kernel_rfl
theorem e17 : c17 = .cond (.tmp 24) c18 c21 := by kernel_rfl
theorem e18 : c18 = .seq c19 c20 := by kernel_rfl
noncomputable def r19 : Array Oper := match c19 with | .region _ x _ => x | _ => #[]
theorem e19 : c19 = .region 5 r19 false := by kernel_rfl
theorem e20 : c20 = .ret := by kernel_rfl
theorem e21 : c21 = .skip := by kernel_rfl
noncomputable def r22 : Array Oper := match c22 with | .region _ x _ => x | _ => #[]
theorem e22 : c22 = .region 3 r22 false := by kernel_rfl
theorem e23 : c23 = .seq c24 c25 := by kernel_rfl
noncomputable def r24 : Array Oper := match c24 with | .region _ x _ => x | _ => #[]
theorem e24 : c24 = .region 6 r24 false := by kernel_rfl
theorem e25 : c25 = .ret := by kernel_rfl
theorem body : Try.f16.body = some c0 := by kernel_rfl
section
variable {base : Nat} {W0 : World} {β0 : Bt}
def L0 (k : Nat) : Nat → (Option HA) → (List UInt8) → Int → HS → Option ((Int) × HS)
  | 0, _, _, _, _ => none
  | n + 1, y0, y1, y5, S =>
    (Option.bind (y0) fun p1 =>
    (Option.bind (HS.ldSl S (HA.fld p1 0)) fun p2 =>
    (if y5 < (Sl.len p2 : Int) then
    (Option.bind (y0) fun p4 =>
    (Option.bind (HS.ldSl S (HA.fld p4 0)) fun p5 =>
    (Option.bind (HS.idx S p5 y5 2) fun p6 =>
    (Option.bind (HS.ldS S (HA.fld p6 0)) fun p7 =>
    (if p7 = y1 then
    some (y5, S) else
    (L0 k n) y0 y1 (w64 (y5 + 1)) S))))) else
    some ((-1), S))))
theorem L0_snd {k : Nat}  : ∀ {n : Nat} ⦃y0 : (Option HA)⦄ ⦃y1 : (List UInt8)⦄ ⦃y5 : Int⦄ ⦃S : HS⦄ ⦃p : (Int) × HS⦄ ⦃g2 g3 g4 g6 g7 g8 g9 g10 g11 g12 g13 g14 g15 g16 g17 g18 g19 g20 g21 g22 g23 g24 g25 : HV⦄, L0 k n y0 y1 y5 S = some p → HRun Try.prog base W0 β0 16 none [.inLoop c7, .inBlock 0, .code c23] ⟨[(.ptr y0), (.str y1), g2, g3, g4, (.int .i64 y5), g6, g7, g8, g9, g10, g11, g12, g13, g14, g15, g16, g17, g18, g19, g20, g21, g22, g23, g24, g25], []⟩ S (fun v S1 => v = (.int .i64 p.1) ∧ S1 = p.2) := by
  intro n
  induction n with
  | zero => intro _ _ _ _ _ _ _ _ _ _ _ _ _ _ _ _ _ _ _ _ _ _ _ _ _ _ _ _ h; cases h
  | succ n ih =>
    intro y0 y1 y5 S p g2 g3 g4 g6 g7 g8 g9 g10 g11 g12 g13 g14 g15 g16 g17 g18 g19 g20 g21 g22 g23 g24 g25 h
    simp only [L0] at h
    refine hr_inLoop ?_
    refine q_seq e7 ?_
    refine q_seq e8 ?_
    refine q_region e9 rfl ?_
    refine q_op (dst := some 6) rfl (fun _ ho => ok_move ho (.tmp rfl)) ?_
    refine q_op (dst := some 7) rfl (fun _ ho => ok_move ho (.tmp rfl)) ?_
    obtain ⟨p1, hp1, h⟩ := bindo h
    refine q_op (dst := some 8) rfl (fun _ ho => ok_nilCheck_p ho (.tmp rfl) hp1) ?_
    refine q_op (dst := some 9) rfl (fun _ ho => ok_fieldAddr_s ho fi30_0 (by decide) (.tmp rfl) rfl) ?_
    try dsimp only [HAct.put, List.set_cons_zero, List.set_cons_succ]
    obtain ⟨p2, hp2, h⟩ := bindo h
    refine q_op (dst := some 10) rfl (fun _ ho => ok_load_s ho sc28 (.tmp rfl) rfl (ldSl_out hp2)) ?_
    refine q_op (dst := some 11) rfl (fun _ ho => ok_len_sl (q := Sl.a p2) (n := Sl.len p2) (z := Sl.cap p2) ho rfl tu28 (.tmp rfl)) ?_
    refine q_op (dst := some 12) rfl (fun _ ho => ok_ibin ho (.tmp rfl) (.tmp rfl) rfl) ?_
    refine hr_region_end ?_
    try dsimp only [HAct.put, List.set_cons_zero, List.set_cons_succ]
    rcases ifc h with ⟨hc3, h⟩ | ⟨hc3, h⟩
    · refine q_cond_t e10 (.tmp rfl) (decide_eq_true hc3) ?_
      refine q_skipc e11 ?_
      refine q_seq e13 ?_
      refine q_block e14 ?_
      refine q_seq e15 ?_
      refine q_region e16 rfl ?_
      refine q_op (dst := some 15) rfl (fun _ ho => ok_move ho (.tmp rfl)) ?_
      obtain ⟨p4, hp4, h⟩ := bindo h
      refine q_op (dst := some 16) rfl (fun _ ho => ok_nilCheck_p ho (.tmp rfl) hp4) ?_
      refine q_op (dst := some 17) rfl (fun _ ho => ok_fieldAddr_s ho fi30_0 (by decide) (.tmp rfl) rfl) ?_
      obtain ⟨p5, hp5, h⟩ := bindo h
      refine q_op (dst := some 18) rfl (fun _ ho => ok_load_s ho sc28 (.tmp rfl) rfl (ldSl_out hp5)) ?_
      try dsimp only [HAct.put, List.set_cons_zero, List.set_cons_succ]
      refine q_op (dst := some 19) rfl (fun _ ho => ok_move ho (.tmp rfl)) ?_
      obtain ⟨p6, hp6, h⟩ := bindo h
      refine q_op (dst := some 20) rfl (fun _ ho => ok_indexAddr (s := p5) ho tu28 sz38 (.tmp rfl) (.tmp rfl) hp6) ?_
      refine q_op (dst := some 21) rfl (fun _ ho => ok_fieldAddr_s ho fi38_0 (by decide) (.tmp rfl) rfl) ?_
      obtain ⟨p7, hp7, h⟩ := bindo h
      refine q_op (dst := some 22) rfl (fun _ ho => ok_load_s ho sc9 (.tmp rfl) rfl (ldS_out hp7)) ?_
      try dsimp only [HAct.put, List.set_cons_zero, List.set_cons_succ]
      refine q_op (dst := some 23) rfl (fun _ ho => ok_move ho (.tmp rfl)) ?_
      refine q_op (dst := some 24) rfl (fun _ ho => ok_sbin ho (.tmp rfl) (.tmp rfl) rfl) ?_
      refine hr_region_end ?_
      try dsimp only [HAct.put, List.set_cons_zero, List.set_cons_succ]
      rcases ifc h with ⟨hc8, h⟩ | ⟨hc8, h⟩
      · refine q_cond_t e17 (.tmp rfl) (decide_eq_true hc8) ?_
        refine q_seq e18 ?_
        refine q_region e19 rfl ?_
        refine q_op (dst := some 25) rfl (fun _ ho => ok_move ho (.tmp rfl)) ?_
        refine q_op (dst := some 4) rfl (fun _ ho => ok_assign ho (.tmp rfl)) ?_
        refine hr_region_end ?_
        try dsimp only [HAct.put, List.set_cons_zero, List.set_cons_succ]
        cases h
        exact q_ret e20 at_.at_ rfl (res1 rfl rfl) ⟨rfl, rfl⟩
      · refine q_cond_f e17 (.tmp rfl) (decide_eq_false hc8) ?_
        refine q_skipc e21 ?_
        refine hr_inBlock ?_
        refine q_region e22 rfl ?_
        refine q_op (dst := some 13) rfl (fun _ ho => ok_move ho (.tmp rfl)) ?_
        refine q_op (dst := some 14) rfl (fun _ ho => ok_ibin ho (.tmp rfl) (.int _ _) rfl) ?_
        refine q_op (dst := some 5) rfl (fun _ ho => ok_assign ho (.tmp rfl)) ?_
        refine hr_region_end ?_
        try dsimp only [HAct.put, List.set_cons_zero, List.set_cons_succ]
        try dsimp only [HAct.put, List.set_cons_zero, List.set_cons_succ]
        exact ih h
    · refine q_cond_f e10 (.tmp rfl) (decide_eq_false hc3) ?_
      refine q_exit e12 rfl ?_
      refine q_seq e23 ?_
      refine q_region e24 rfl ?_
      refine q_op (dst := some 4) rfl (fun _ ho => ok_assign ho (.int _ _)) ?_
      refine hr_region_end ?_
      try dsimp only [HAct.put, List.set_cons_zero, List.set_cons_succ]
      cases h
      exact q_ret e25 at_.at_ rfl (res1 rfl rfl) ⟨rfl, rfl⟩
def f (k : Nat) (x0 : (Option HA)) (x1 : (List UInt8)) (S : HS) : Option ((Int) × HS) :=
  L0 k k x0 x1 0 S
theorem snd {k : Nat} {x0 : (Option HA)} {x1 : (List UInt8)} {S : HS}  {p : (Int) × HS} (h : f k x0 x1 S = some p) : HCall Try.prog base W0 β0 16 [(.ptr x0), (.str x1)] S (fun v S1 => v = (.int .i64 p.1) ∧ S1 = p.2) := by
  unfold f at h
  refine HCall.of_run at_.at_ body ?_
  show HRun Try.prog base W0 β0 16 none [.code c0] ⟨[(.ptr x0), (.str x1), .tup [], .tup [], .tup [], .tup [], .tup [], .tup [], .tup [], .tup [], .tup [], .tup [], .tup [], .tup [], .tup [], .tup [], .tup [], .tup [], .tup [], .tup [], .tup [], .tup [], .tup [], .tup [], .tup [], .tup []], []⟩ S _
  refine q_seq e0 ?_
  refine q_region e1 rfl ?_
  refine q_op (dst := some 4) rfl (fun _ ho => ok_assign ho (.int _ _)) ?_
  refine hr_region_end ?_
  try dsimp only [HAct.put, List.set_cons_zero, List.set_cons_succ]
  refine q_seq e2 ?_
  refine q_seq e3 ?_
  refine q_region e4 rfl ?_
  refine q_op (dst := some 5) rfl (fun _ ho => ok_assign ho (.int _ _)) ?_
  refine hr_region_end ?_
  try dsimp only [HAct.put, List.set_cons_zero, List.set_cons_succ]
  refine q_block e5 ?_
  refine q_loop e6 ?_
  try dsimp only [HAct.put, List.set_cons_zero, List.set_cons_succ]
  exact L0_snd  h
end
end rollcallref09_Table_At
namespace rollcallref09_Table_Stop
abbrev id : Nat := 10
theorem at_ : FnAt Try.prog 10 Try.f10 := ⟨Try.func10, by kernel_rfl⟩
noncomputable def c0 : Code := (Try.f10.body).getD .skip
noncomputable def c1 : Code := match c0 with | .seq x _ => x | _ => .skip
noncomputable def c2 : Code := match c0 with | .seq _ x => x | _ => .skip
noncomputable def c3 : Code := match c2 with | .seq x _ => x | _ => .skip
noncomputable def c4 : Code := match c2 with | .seq _ x => x | _ => .skip
noncomputable def c5 : Code := match c4 with | .seq x _ => x | _ => .skip
noncomputable def c6 : Code := match c5 with | .seq x _ => x | _ => .skip
noncomputable def c7 : Code := match c5 with | .seq _ x => x | _ => .skip
noncomputable def c8 : Code := match c7 with | .cond _ x _ => x | _ => .skip
noncomputable def c9 : Code := match c8 with | .seq x _ => x | _ => .skip
noncomputable def c10 : Code := match c8 with | .seq _ x => x | _ => .skip
noncomputable def c11 : Code := match c7 with | .cond _ _ x => x | _ => .skip
noncomputable def c12 : Code := match c4 with | .seq _ x => x | _ => .skip
noncomputable def c13 : Code := match c12 with | .seq x _ => x | _ => .skip
noncomputable def c14 : Code := match c12 with | .seq _ x => x | _ => .skip
noncomputable def c15 : Code := match c14 with | .seq x _ => x | _ => .skip
noncomputable def c16 : Code := match c14 with | .seq _ x => x | _ => .skip
theorem e0 : c0 = .seq c1 c2 := by kernel_rfl
noncomputable def r1 : Array Oper := match c1 with | .region _ x _ => x | _ => #[]
theorem e1 : c1 = .region 0 r1 false := by kernel_rfl
theorem e2 : c2 = .seq c3 c4 := by kernel_rfl
noncomputable def r3 : Array Oper := match c3 with | .region _ x _ => x | _ => #[]
theorem e3 : c3 = .region 1 r3 false := by kernel_rfl
theorem e4 : c4 = .seq c5 c12 := by kernel_rfl
theorem e5 : c5 = .seq c6 c7 := by kernel_rfl
noncomputable def r6 : Array Oper := match c6 with | .region _ x _ => x | _ => #[]
theorem e6 : c6 = .region 2 r6 false := by kernel_rfl
theorem e7 : c7 = .cond (.tmp 10) c8 c11 := by kernel_rfl
theorem e8 : c8 = .seq c9 c10 := by kernel_rfl
noncomputable def r9 : Array Oper := match c9 with | .region _ x _ => x | _ => #[]
theorem e9 : c9 = .region 3 r9 false := by kernel_rfl
theorem e10 : c10 = .ret := by kernel_rfl
theorem e11 : c11 = .skip := by kernel_rfl
theorem e12 : c12 = .seq c13 c14 := by kernel_rfl
noncomputable def r13 : Array Oper := match c13 with | .region _ x _ => x | _ => #[]
theorem e13 : c13 = .region 4 r13 true := by kernel_rfl
theorem e14 : c14 = .seq c15 c16 := by kernel_rfl
noncomputable def r15 : Array Oper := match c15 with | .region _ x _ => x | _ => #[]
theorem e15 : c15 = .region 5 r15 false := by kernel_rfl
theorem e16 : c16 = .ret := by kernel_rfl
theorem body : Try.f10.body = some c0 := by kernel_rfl
section
variable {base : Nat} {W0 : World} {β0 : Bt}
def f (k : Nat) (x0 : (Option HA)) (x1 : (List UInt8)) (S : HS) : Option ((Bool) × HS) :=
  (Option.bind (rollcallref09_Table_At.f k x0 x1 S) fun p1 =>
  (if p1.1 < 0 then
  some (false, p1.2) else
  (letv (HS.lit p1.2 [] 2) fun p3 =>
  (Option.bind (x0) fun p4 =>
  (Option.bind (HS.ldSl (p3.2) (HA.fld p4 0)) fun p5 =>
  (Option.bind (HS.ldSl p1.2 (HA.fld p4 0)) fun p6 =>
  (if p6 = p5 then
  (Option.bind (HS.cut (p3.2) p5 0 p1.1 2) fun p8 =>
  (Option.bind (HS.cut p1.2 p5 0 p1.1 2) fun p9 =>
  (if p9 = p8 then
  (Option.bind (HS.rows (p3.2) p8 2) fun p11 =>
  (Option.bind (HS.app (p3.2) (p3.1) p11 2) fun p12 =>
  (Option.bind (x0) fun p13 =>
  (Option.bind (HS.ldSl (p12.2) (HA.fld p13 0)) fun p14 =>
  (Option.bind (HS.ldSl (p3.2) (HA.fld p13 0)) fun p15 =>
  (if p15 = p14 then
  (Option.bind (HS.ldSl p1.2 (HA.fld p13 0)) fun p17 =>
  (if p17 = p14 then
  (Option.bind (HS.cut (p12.2) p14 (w64 (p1.1 + 1)) (Sl.len p14 : Int) 2) fun p19 =>
  (Option.bind (HS.cut (p3.2) p14 (w64 (p1.1 + 1)) (Sl.len p14 : Int) 2) fun p20 =>
  (if p20 = p19 then
  (Option.bind (HS.cut p1.2 p14 (w64 (p1.1 + 1)) (Sl.len p14 : Int) 2) fun p22 =>
  (if p22 = p19 then
  (Option.bind (HS.rows (p12.2) p19 2) fun p24 =>
  (Option.bind (HS.app (p12.2) (p12.1) p24 2) fun p25 =>
  (Option.bind (x0) fun p26 =>
  (Option.bind (HS.sets (p25.2) (HA.fld p26 0) [(Sl.hv (p25.1))]) fun p27 =>
  some (true, p27))))) else none)) else none))) else none)) else none)))))) else none))) else none)))))))
theorem snd {k : Nat} {x0 : (Option HA)} {x1 : (List UInt8)} {S : HS}  {p : (Bool) × HS} (h : f k x0 x1 S = some p) : HCall Try.prog base W0 β0 10 [(.ptr x0), (.str x1)] S (fun v S1 => v = (.bool p.1) ∧ S1 = p.2) := by
  unfold f at h
  refine HCall.of_run at_.at_ body ?_
  show HRun Try.prog base W0 β0 10 none [.code c0] ⟨[(.ptr x0), (.str x1), .tup [], .tup [], .tup [], .tup [], .tup [], .tup [], .tup [], .tup [], .tup [], .tup [], .tup [], .tup [], .tup [], .tup [], .tup [], .tup [], .tup [], .tup [], .tup [], .tup [], .tup [], .tup [], .tup [], .tup [], .tup [], .tup [], .tup [], .tup []], []⟩ S _
  refine q_seq e0 ?_
  refine q_region e1 rfl ?_
  refine q_op (dst := some 4) rfl (fun _ ho => ok_assign ho (.bool _)) ?_
  refine hr_region_end ?_
  try dsimp only [HAct.put, List.set_cons_zero, List.set_cons_succ]
  refine q_seq e2 ?_
  refine q_region e3 rfl ?_
  refine q_op (dst := some 6) rfl (fun _ ho => ok_move ho (.tmp rfl)) ?_
  refine q_op (dst := some 7) rfl (fun _ ho => ok_move ho (.tmp rfl)) ?_
  obtain ⟨p1, hp1, h⟩ := bindo h
  refine q_call (dst := some 8) rfl (.func _) (.cons (.tmp rfl) (.cons (.tmp rfl) Evs.nil)) (HInv.static rollcallref09_Table_At.at_ rollcallref09_Table_At.body (rollcallref09_Table_At.snd  hp1)) ?_
  rintro _ _ ⟨rfl, rfl⟩
  refine q_op (dst := some 5) rfl (fun _ ho => ok_assign ho (.tmp rfl)) ?_
  refine hr_region_end ?_
  try dsimp only [HAct.put, List.set_cons_zero, List.set_cons_succ]
  refine q_seq e4 ?_
  refine q_seq e5 ?_
  refine q_region e6 rfl ?_
  refine q_op (dst := some 9) rfl (fun _ ho => ok_move ho (.tmp rfl)) ?_
  refine q_op (dst := some 10) rfl (fun _ ho => ok_ibin ho (.tmp rfl) (.int _ _) rfl) ?_
  refine hr_region_end ?_
  try dsimp only [HAct.put, List.set_cons_zero, List.set_cons_succ]
  rcases ifc h with ⟨hc2, h⟩ | ⟨hc2, h⟩
  · refine q_cond_t e7 (.tmp rfl) (decide_eq_true hc2) ?_
    refine q_seq e8 ?_
    refine q_region e9 rfl ?_
    refine q_op (dst := some 4) rfl (fun _ ho => ok_assign ho (.bool _)) ?_
    refine hr_region_end ?_
    try dsimp only [HAct.put, List.set_cons_zero, List.set_cons_succ]
    cases h
    exact q_ret e10 at_.at_ rfl (res1 rfl rfl) ⟨rfl, rfl⟩
  · refine q_cond_f e7 (.tmp rfl) (decide_eq_false hc2) ?_
    refine q_skipc e11 ?_
    refine q_seq e12 ?_
    refine x_start (cls := [0, 2, 0, 0, 0, 3, 0, 3, 2, 0, 0, 0, 3, 0, 0, 3, 2, 0, 0, 2]) (rk := [0, 1, 2, 3, 4, 5, 6, 7, 8, 9, 10, 11, 12, 13, 14, 15, 16, 17, 18, 19]) e13 (by kernel_rfl) ?_
    refine x_goP (f_op (dst := some 11) (ts := [0]) rfl (by intro _ _ h; cases h) (by kernel_rfl) (fun _ _ ho => ok_move ho (.tmp rfl))) rfl (by decide) (by decide) ?_
    obtain ⟨p3, hp3, h⟩ := leto h
    refine x_goE (e_op (dst := some 12) (ts := []) rfl (by intro _ _ h; cases h) (by kernel_rfl) (fun _ ho => ok_buildSlice_s (xs := []) el28 ho rfl rfl (by decide) Evs.nil rfl rfl hp3)) rfl trivial ?_
    refine x_goP (f_op (dst := some 13) (ts := [0]) rfl (by intro _ _ h; cases h) (by kernel_rfl) (fun _ _ ho => ok_move ho (.tmp rfl))) rfl (by decide) (by decide) ?_
    obtain ⟨p4, hp4, h⟩ := bindo h
    refine x_goP (f_op (dst := some 14) (ts := [13]) rfl (by intro _ _ h; cases h) (by kernel_rfl) (fun _ _ ho => ok_nilCheck_p ho (.tmp rfl) hp4)) rfl (by decide) (by decide) ?_
    try dsimp only [HAct.put, List.set_cons_zero, List.set_cons_succ]
    refine x_goP (f_op (dst := some 15) (ts := [14]) rfl (by intro _ _ h; cases h) (by kernel_rfl) (fun _ _ ho => ok_fieldAddr_s ho fi30_0 (by decide) (.tmp rfl) rfl)) rfl (by decide) (by decide) ?_
    obtain ⟨p5, hp5, h⟩ := bindo h
    obtain ⟨p6, hp6, h⟩ := bindo h
    obtain ⟨hg7, h⟩ := gd h
    refine x_late (r_op (dst := some 16) (ts := [15]) rfl (by intro _ _ h; cases h) (by kernel_rfl) (fun _ ho => ok_load_s ho sc28 (.tmp rfl) rfl (ldSl_out hp5))) rfl ⟨.inr (l_op (dst := some 16) (ts := [15]) rfl (by intro _ _ h; cases h) (by kernel_rfl) (fun _ ho => ok_load_s ho sc28 (.tmp rfl) rfl (ldSl_out (hp6.trans (congrArg some hg7))))), trivial⟩ ?_
    refine x_goP (f_op (dst := some 17) (ts := [5]) rfl (by intro _ _ h; cases h) (by kernel_rfl) (fun _ _ ho => ok_move ho (.tmp rfl))) rfl (by decide) (by decide) ?_
    obtain ⟨p8, hp8, h⟩ := bindo h
    obtain ⟨p9, hp9, h⟩ := bindo h
    obtain ⟨hg10, h⟩ := gd h
    refine x_late (r_op (dst := some 18) (ts := [16, 17]) rfl (by intro _ _ h; cases h) (by kernel_rfl) (fun _ ho => ok_slice (kl := .i64) (kh := .i64) (s := p5) (l := 0) (h := p1.1) ho tu28 si38 (.tmp rfl) (.inl ⟨rfl, rfl⟩) (.inr ⟨_, rfl, (.tmp rfl)⟩) hp8)) rfl ⟨.inr (l_op (dst := some 18) (ts := [16, 17]) rfl (by intro _ _ h; cases h) (by kernel_rfl) (fun _ ho => ok_slice (kl := .i64) (kh := .i64) (s := p5) (l := 0) (h := p1.1) ho tu28 si38 (.tmp rfl) (.inl ⟨rfl, rfl⟩) (.inr ⟨_, rfl, (.tmp rfl)⟩) (hp9.trans (congrArg some hg10)))), trivial⟩ ?_
    try dsimp only [HAct.put, List.set_cons_zero, List.set_cons_succ]
    obtain ⟨p11, hp11, h⟩ := bindo h
    obtain ⟨p12, hp12, h⟩ := bindo h
    refine x_goE (e_op (dst := some 19) (ts := [12, 18]) rfl (by intro _ _ h; cases h) (by kernel_rfl) (fun _ ho => ok_append (s := (p3.1)) (s1 := p8) el28 ho rfl rfl ⟨_, tu28⟩ (.tmp rfl) (.tmp rfl) hp11 hp12)) rfl ⟨.inl (by kernel_rfl), .inl (by kernel_rfl), trivial⟩ ?_
    refine x_goP (f_op (dst := some 20) (ts := [0]) rfl (by intro _ _ h; cases h) (by kernel_rfl) (fun _ _ ho => ok_move ho (.tmp rfl))) rfl (by decide) (by decide) ?_
    obtain ⟨p13, hp13, h⟩ := bindo h
    refine x_goP (f_op (dst := some 21) (ts := [20]) rfl (by intro _ _ h; cases h) (by kernel_rfl) (fun _ _ ho => ok_nilCheck_p ho (.tmp rfl) hp13)) rfl (by decide) (by decide) ?_
    refine x_goP (f_op (dst := some 22) (ts := [21]) rfl (by intro _ _ h; cases h) (by kernel_rfl) (fun _ _ ho => ok_fieldAddr_s ho fi30_0 (by decide) (.tmp rfl) rfl)) rfl (by decide) (by decide) ?_
    try dsimp only [HAct.put, List.set_cons_zero, List.set_cons_succ]
    obtain ⟨p14, hp14, h⟩ := bindo h
    obtain ⟨p15, hp15, h⟩ := bindo h
    obtain ⟨hg16, h⟩ := gd h
    obtain ⟨p17, hp17, h⟩ := bindo h
    obtain ⟨hg18, h⟩ := gd h
    refine x_late (r_op (dst := some 23) (ts := [22]) rfl (by intro _ _ h; cases h) (by kernel_rfl) (fun _ ho => ok_load_s ho sc28 (.tmp rfl) rfl (ldSl_out hp14))) rfl ⟨.inr (l_op (dst := some 23) (ts := [22]) rfl (by intro _ _ h; cases h) (by kernel_rfl) (fun _ ho => ok_load_s ho sc28 (.tmp rfl) rfl (ldSl_out (hp15.trans (congrArg some hg16))))), .inr (l_op (dst := some 23) (ts := [22]) rfl (by intro _ _ h; cases h) (by kernel_rfl) (fun _ ho => ok_load_s ho sc28 (.tmp rfl) rfl (ldSl_out (hp17.trans (congrArg some hg18))))), trivial⟩ ?_
    refine x_goP (f_op (dst := some 24) (ts := [5]) rfl (by intro _ _ h; cases h) (by kernel_rfl) (fun _ _ ho => ok_move ho (.tmp rfl))) rfl (by decide) (by decide) ?_
    refine x_goP (f_op (dst := some 25) (ts := [24]) rfl (by intro _ _ h; cases h) (by kernel_rfl) (fun _ _ ho => ok_ibin ho (.tmp rfl) (.int _ _) rfl)) rfl (by decide) (by decide) ?_
    obtain ⟨p19, hp19, h⟩ := bindo h
    obtain ⟨p20, hp20, h⟩ := bindo h
    obtain ⟨hg21, h⟩ := gd h
    obtain ⟨p22, hp22, h⟩ := bindo h
    obtain ⟨hg23, h⟩ := gd h
    refine x_late (r_op (dst := some 26) (ts := [23, 25]) rfl (by intro _ _ h; cases h) (by kernel_rfl) (fun _ ho => ok_slice (kl := .i64) (kh := .i64) (s := p14) (l := (w64 (p1.1 + 1))) (h := (Sl.len p14 : Int)) ho tu28 si38 (.tmp rfl) (.inr ⟨_, rfl, (.tmp rfl)⟩) (.inl ⟨rfl, rfl⟩) hp19)) rfl ⟨.inr (l_op (dst := some 26) (ts := [23, 25]) rfl (by intro _ _ h; cases h) (by kernel_rfl) (fun _ ho => ok_slice (kl := .i64) (kh := .i64) (s := p14) (l := (w64 (p1.1 + 1))) (h := (Sl.len p14 : Int)) ho tu28 si38 (.tmp rfl) (.inr ⟨_, rfl, (.tmp rfl)⟩) (.inl ⟨rfl, rfl⟩) (hp20.trans (congrArg some hg21)))), .inr (l_op (dst := some 26) (ts := [23, 25]) rfl (by intro _ _ h; cases h) (by kernel_rfl) (fun _ ho => ok_slice (kl := .i64) (kh := .i64) (s := p14) (l := (w64 (p1.1 + 1))) (h := (Sl.len p14 : Int)) ho tu28 si38 (.tmp rfl) (.inr ⟨_, rfl, (.tmp rfl)⟩) (.inl ⟨rfl, rfl⟩) (hp22.trans (congrArg some hg23)))), trivial⟩ ?_
    try dsimp only [HAct.put, List.set_cons_zero, List.set_cons_succ]
    obtain ⟨p24, hp24, h⟩ := bindo h
    obtain ⟨p25, hp25, h⟩ := bindo h
    refine x_goE (e_op (dst := some 27) (ts := [19, 26]) rfl (by intro _ _ h; cases h) (by kernel_rfl) (fun _ ho => ok_append (s := (p12.1)) (s1 := p19) el28 ho rfl rfl ⟨_, tu28⟩ (.tmp rfl) (.tmp rfl) hp24 hp25)) rfl ⟨.inl (by kernel_rfl), .inl (by kernel_rfl), .inl (by kernel_rfl), .inl (by kernel_rfl), trivial⟩ ?_
    obtain ⟨p26, hp26, h⟩ := bindo h
    refine x_goP (f_op (dst := some 28) (ts := [11]) rfl (by intro _ _ h; cases h) (by kernel_rfl) (fun _ _ ho => ok_nilCheck_p ho (.tmp rfl) hp26)) rfl (by decide) (by decide) ?_
    refine x_goP (f_op (dst := some 29) (ts := [28]) rfl (by intro _ _ h; cases h) (by kernel_rfl) (fun _ _ ho => ok_fieldAddr_s ho fi30_0 (by decide) (.tmp rfl) rfl)) rfl (by decide) (by decide) ?_
    obtain ⟨p27, hp27, h⟩ := bindo h
    refine x_goE (e_op (dst := none) (ts := [29, 27]) rfl (by intro _ _ h; cases h) (by kernel_rfl) (fun _ ho => ok_store_s (v := (Sl.hv (p25.1))) ho sz28 (.tmp rfl) rfl (.tmp rfl) rfl hp27)) rfl ⟨.inl (by kernel_rfl), .inl (by kernel_rfl), .inl (by kernel_rfl), .inl (by kernel_rfl), trivial⟩ ?_
    refine x_rest rfl ?_
    refine hr_region_end ?_
    try dsimp only [HAct.put, List.set_cons_zero, List.set_cons_succ]
    refine q_seq e14 ?_
    refine q_region e15 rfl ?_
    refine q_op (dst := some 4) rfl (fun _ ho => ok_assign ho (.bool _)) ?_
    refine hr_region_end ?_
    try dsimp only [HAct.put, List.set_cons_zero, List.set_cons_succ]
    cases h
    exact q_ret e16 at_.at_ rfl (res1 rfl rfl) ⟨rfl, rfl⟩
end
end rollcallref09_Table_Stop
namespace rollcallref09_ahead
abbrev id : Nat := 29
theorem at_ : FnAt Try.prog 29 Try.f29 := ⟨Try.func29, by kernel_rfl⟩
noncomputable def c0 : Code := (Try.f29.body).getD .skip
noncomputable def c1 : Code := match c0 with | .seq x _ => x | _ => .skip
noncomputable def c2 : Code := match c0 with | .seq _ x => x | _ => .skip
noncomputable def c3 : Code := match c2 with | .seq x _ => x | _ => .skip
noncomputable def c4 : Code := match c2 with | .seq _ x => x | _ => .skip
theorem e0 : c0 = .seq c1 c2 := by kernel_rfl
noncomputable def r1 : Array Oper := match c1 with | .region _ x _ => x | _ => #[]
theorem e1 : c1 = .region 0 r1 false := by kernel_rfl
theorem e2 : c2 = .seq c3 c4 := by kernel_rfl
noncomputable def r3 : Array Oper := match c3 with | .region _ x _ => x | _ => #[]
theorem e3 : c3 = .region 1 r3 false := by kernel_rfl
theorem e4 : c4 = .ret := by kernel_rfl
theorem body : Try.f29.body = some c0 := by kernel_rfl
section
variable {base : Nat} {W0 : World} {β0 : Bt}
def J0  (y23 : Bool) (S : HS) : Option ((Bool) × HS) :=
  some (y23, S)
theorem J0_snd   {y23 : Bool} {S : HS} {p : (Bool) × HS} {g0 g1 g2 g3 g4 g5 g6 g7 g8 g9 g10 g11 g12 g13 g14 g15 g16 g17 g18 g19 g20 g21 g22 : HV} (h : J0  y23 S = some p) : HRun Try.prog base W0 β0 29 none [.inRegion r3 [19], .code c4] ⟨[g0, g1, g2, g3, g4, g5, g6, g7, g8, g9, g10, g11, g12, g13, g14, g15, g16, g17, g18, g19, g20, g21, g22, (.bool y23)], []⟩ S (fun v S1 => v = (.bool p.1) ∧ S1 = p.2) := by
  unfold J0 at h
  refine q_op (dst := some 4) rfl (fun _ ho => ok_assign ho (.tmp rfl)) ?_
  refine hr_region_end ?_
  try dsimp only [HAct.put, List.set_cons_zero, List.set_cons_succ]
  cases h
  exact q_ret e4 at_.at_ rfl (res1 rfl rfl) ⟨rfl, rfl⟩
def J1  (y10 : Bool) (y22 : Bool) (S : HS) : Option ((Bool) × HS) :=
  (if y10 = true then
  J0 true S else
  J0 y22 S)
theorem J1_snd   {y10 : Bool} {y22 : Bool} {S : HS} {p : (Bool) × HS} {g0 g1 g2 g3 g4 g5 g6 g7 g8 g9 g11 g12 g13 g14 g15 g16 g17 g18 g19 g20 g21 g23 : HV} (h : J1  y10 y22 S = some p) : HRun Try.prog base W0 β0 29 none [.inRegion r3 [18, 19], .code c4] ⟨[g0, g1, g2, g3, g4, g5, g6, g7, g8, g9, (.bool y10), g11, g12, g13, g14, g15, g16, g17, g18, g19, g20, g21, (.bool y22), g23], []⟩ S (fun v S1 => v = (.bool p.1) ∧ S1 = p.2) := by
  unfold J1 at h
  rcases ifc h with ⟨hc11, h⟩ | ⟨hc11, h⟩
  · refine q_op (dst := some 23) rfl (fun _ ho => ok_pick_tt ho (.tmp rfl) hc11 (.bool _)) ?_
    try dsimp only [HAct.put, List.set_cons_zero, List.set_cons_succ]
    exact J0_snd  h
  · refine q_op (dst := some 23) rfl (fun _ ho => ok_pick_ff ho (.tmp rfl) (bfalse hc11) (.tmp rfl)) ?_
    try dsimp only [HAct.put, List.set_cons_zero, List.set_cons_succ]
    exact J0_snd  h
def f (x0_0 : (List UInt8)) (x0_1 : Int) (x1_0 : (List UInt8)) (x1_1 : Int) (S : HS) : Option ((Bool) × HS) :=
  (letv (HS.new S (.cells 2 [[(.str x0_0), (.int .i64 x0_1)]] true)) fun p1 =>
  (letv (HS.new p1 (.cells 2 [[(.str x1_0), (.int .i64 x1_1)]] true)) fun p2 =>
  (Option.bind (HS.ldI p2 .i64 (HA.fld (HA.cell0 S.next) 1)) fun p3 =>
  (Option.bind (HS.ldI p2 .i64 (HA.fld (HA.cell0 p1.next) 1)) fun p4 =>
  (if p3 < p4 then
  J0 true p2 else
  (Option.bind (HS.ldI p2 .i64 (HA.fld (HA.cell0 S.next) 1)) fun p6 =>
  (Option.bind (HS.ldI p2 .i64 (HA.fld (HA.cell0 p1.next) 1)) fun p7 =>
  (if p6 = p7 then
  (Option.bind (HS.ldS p2 (HA.fld (HA.cell0 S.next) 0)) fun p9 =>
  (Option.bind (HS.ldS p2 (HA.fld (HA.cell0 p1.next) 0)) fun p10 =>
  J1 (decide (p3 < p4)) (slt p9 p10) p2)) else
  J1 (decide (p3 < p4)) false p2))))))))
theorem snd {x0_0 : (List UInt8)} {x0_1 : Int} {x1_0 : (List UInt8)} {x1_1 : Int} {S : HS}  {p : (Bool) × HS} (h : f x0_0 x0_1 x1_0 x1_1 S = some p) : HCall Try.prog base W0 β0 29 [(.agg [(.str x0_0), (.int .i64 x0_1)]), (.agg [(.str x1_0), (.int .i64 x1_1)])] S (fun v S1 => v = (.bool p.1) ∧ S1 = p.2) := by
  unfold f at h
  refine HCall.of_run at_.at_ body ?_
  show HRun Try.prog base W0 β0 29 none [.code c0] ⟨[(.agg [(.str x0_0), (.int .i64 x0_1)]), (.agg [(.str x1_0), (.int .i64 x1_1)]), .tup [], .tup [], .tup [], .tup [], .tup [], .tup [], .tup [], .tup [], .tup [], .tup [], .tup [], .tup [], .tup [], .tup [], .tup [], .tup [], .tup [], .tup [], .tup [], .tup [], .tup [], .tup []], []⟩ S _
  refine q_seq e0 ?_
  refine q_region e1 rfl ?_
  obtain ⟨p1, hp1, h⟩ := leto h
  refine q_op (dst := some 2) rfl (fun _ ho => ok_box_e ho (.tmp rfl) (Nat.zero_lt_succ _) rfl hp1) ?_
  obtain ⟨p2, hp2, h⟩ := leto h
  refine q_op (dst := some 3) rfl (fun _ ho => ok_box_e ho (.tmp rfl) (Nat.zero_lt_succ _) rfl hp2) ?_
  refine q_op (dst := some 4) rfl (fun _ ho => ok_assign ho (.bool _)) ?_
  refine hr_region_end ?_
  try dsimp only [HAct.put, List.set_cons_zero, List.set_cons_succ]
  refine q_seq e2 ?_
  refine q_region e3 rfl ?_
  refine q_op (dst := some 5) rfl (fun _ ho => ok_fieldAddr_s ho fi38_1 (by decide) (.tmp rfl) rfl) ?_
  obtain ⟨p3, hp3, h⟩ := bindo h
  refine q_op (dst := some 6) rfl (fun _ ho => ok_load_s ho sc3 (.tmp rfl) rfl (ldI_out hp3)) ?_
  refine q_op (dst := some 7) rfl (fun _ ho => ok_fieldAddr_s ho fi38_1 (by decide) (.tmp rfl) rfl) ?_
  obtain ⟨p4, hp4, h⟩ := bindo h
  refine q_op (dst := some 8) rfl (fun _ ho => ok_load_s ho sc3 (.tmp rfl) rfl (ldI_out hp4)) ?_
  try dsimp only [HAct.put, List.set_cons_zero, List.set_cons_succ]
  refine q_op (dst := some 9) rfl (fun _ ho => ok_ibin ho (.tmp rfl) (.tmp rfl) rfl) ?_
  refine q_op (dst := some 10) rfl (fun _ ho => ok_move ho (.tmp rfl)) ?_
  rcases ifc h with ⟨hc5, h⟩ | ⟨hc5, h⟩
  · refine q_skip (dst := some 11) (t := 10) rfl rfl rfl (decide_eq_true hc5) ?_
    refine q_skip (dst := some 12) (t := 10) rfl rfl rfl (decide_eq_true hc5) ?_
    try dsimp only [HAct.put, List.set_cons_zero, List.set_cons_succ]
    refine q_skip (dst := some 13) (t := 10) rfl rfl rfl (decide_eq_true hc5) ?_
    refine q_skip (dst := some 14) (t := 10) rfl rfl rfl (decide_eq_true hc5) ?_
    refine q_skip (dst := some 15) (t := 10) rfl rfl rfl (decide_eq_true hc5) ?_
    refine q_skip (dst := some 16) (t := 10) rfl rfl rfl (decide_eq_true hc5) ?_
    try dsimp only [HAct.put, List.set_cons_zero, List.set_cons_succ]
    refine q_skip_u (dst := some 17) (t := 16) rfl rfl rfl ?_
    refine q_skip_u (dst := some 18) (t := 16) rfl rfl rfl ?_
    refine q_skip_u (dst := some 19) (t := 16) rfl rfl rfl ?_
    refine q_skip_u (dst := some 20) (t := 16) rfl rfl rfl ?_
    try dsimp only [HAct.put, List.set_cons_zero, List.set_cons_succ]
    refine q_skip_u (dst := some 21) (t := 16) rfl rfl rfl ?_
    refine q_skip (dst := some 22) (t := 10) rfl rfl rfl (decide_eq_true hc5) ?_
    refine q_op (dst := some 23) rfl (fun _ ho => ok_pick_tt ho (.tmp rfl) (decide_eq_true hc5) (.bool _)) ?_
    try dsimp only [HAct.put, List.set_cons_zero, List.set_cons_succ]
    exact J0_snd  h
  · refine q_op_g (t := 10) (dst := some 11) rfl rfl rfl (decide_eq_false hc5) (fun _ ho => ok_fieldAddr_s ho fi38_1 (by decide) (.tmp rfl) rfl) ?_
    obtain ⟨p6, hp6, h⟩ := bindo h
    refine q_op_g (t := 10) (dst := some 12) rfl rfl rfl (decide_eq_false hc5) (fun _ ho => ok_load_s ho sc3 (.tmp rfl) rfl (ldI_out hp6)) ?_
    try dsimp only [HAct.put, List.set_cons_zero, List.set_cons_succ]
    refine q_op_g (t := 10) (dst := some 13) rfl rfl rfl (decide_eq_false hc5) (fun _ ho => ok_fieldAddr_s ho fi38_1 (by decide) (.tmp rfl) rfl) ?_
    obtain ⟨p7, hp7, h⟩ := bindo h
    refine q_op_g (t := 10) (dst := some 14) rfl rfl rfl (decide_eq_false hc5) (fun _ ho => ok_load_s ho sc3 (.tmp rfl) rfl (ldI_out hp7)) ?_
    refine q_op_g (t := 10) (dst := some 15) rfl rfl rfl (decide_eq_false hc5) (fun _ ho => ok_ibin ho (.tmp rfl) (.tmp rfl) rfl) ?_
    refine q_op_g (t := 10) (dst := some 16) rfl rfl rfl (decide_eq_false hc5) (fun _ ho => ok_move ho (.tmp rfl)) ?_
    try dsimp only [HAct.put, List.set_cons_zero, List.set_cons_succ]
    rcases ifc h with ⟨hc8, h⟩ | ⟨hc8, h⟩
    · refine q_op_g (t := 16) (dst := some 17) rfl rfl rfl (decide_eq_true hc8) (fun _ ho => ok_fieldAddr_s ho fi38_0 (by decide) (.tmp rfl) rfl) ?_
      obtain ⟨p9, hp9, h⟩ := bindo h
      refine q_op_g (t := 16) (dst := some 18) rfl rfl rfl (decide_eq_true hc8) (fun _ ho => ok_load_s ho sc9 (.tmp rfl) rfl (ldS_out hp9)) ?_
      refine q_op_g (t := 16) (dst := some 19) rfl rfl rfl (decide_eq_true hc8) (fun _ ho => ok_fieldAddr_s ho fi38_0 (by decide) (.tmp rfl) rfl) ?_
      obtain ⟨p10, hp10, h⟩ := bindo h
      refine q_op_g (t := 16) (dst := some 20) rfl rfl rfl (decide_eq_true hc8) (fun _ ho => ok_load_s ho sc9 (.tmp rfl) rfl (ldS_out hp10)) ?_
      try dsimp only [HAct.put, List.set_cons_zero, List.set_cons_succ]
      refine q_op_g (t := 16) (dst := some 21) rfl rfl rfl (decide_eq_true hc8) (fun _ ho => ok_sbin ho (.tmp rfl) (.tmp rfl) rfl) ?_
      refine q_op_g (t := 10) (dst := some 22) rfl rfl rfl (decide_eq_false hc5) (fun _ ho => ok_pick_tt ho (.tmp rfl) (decide_eq_true hc8) (.tmp rfl)) ?_
      try dsimp only [HAct.put, List.set_cons_zero, List.set_cons_succ]
      exact J1_snd  h
    · refine q_skip (dst := some 17) (t := 16) rfl rfl rfl (decide_eq_false hc8) ?_
      refine q_skip (dst := some 18) (t := 16) rfl rfl rfl (decide_eq_false hc8) ?_
      refine q_skip (dst := some 19) (t := 16) rfl rfl rfl (decide_eq_false hc8) ?_
      refine q_skip (dst := some 20) (t := 16) rfl rfl rfl (decide_eq_false hc8) ?_
      try dsimp only [HAct.put, List.set_cons_zero, List.set_cons_succ]
      refine q_skip (dst := some 21) (t := 16) rfl rfl rfl (decide_eq_false hc8) ?_
      refine q_op_g (t := 10) (dst := some 22) rfl rfl rfl (decide_eq_false hc5) (fun _ ho => ok_pick_ff ho (.tmp rfl) (decide_eq_false hc8) (.bool _)) ?_
      try dsimp only [HAct.put, List.set_cons_zero, List.set_cons_succ]
      exact J1_snd  h
end
end rollcallref09_ahead
namespace rollcallref09_Table_Due
abbrev id : Nat := 12
theorem at_ : FnAt Try.prog 12 Try.f12 := ⟨Try.func12, by kernel_rfl⟩
noncomputable def c0 : Code := (Try.f12.body).getD .skip
noncomputable def c1 : Code := match c0 with | .seq x _ => x | _ => .skip
noncomputable def c2 : Code := match c0 with | .seq _ x => x | _ => .skip
noncomputable def c3 : Code := match c2 with | .seq x _ => x | _ => .skip
noncomputable def c4 : Code := match c2 with | .seq _ x => x | _ => .skip
noncomputable def c5 : Code := match c4 with | .block _ x => x | _ => .skip
noncomputable def c6 : Code := match c5 with | .loop x => x | _ => .skip
noncomputable def c7 : Code := match c6 with | .block _ x => x | _ => .skip
noncomputable def c8 : Code := match c7 with | .seq x _ => x | _ => .skip
noncomputable def c9 : Code := match c7 with | .seq _ x => x | _ => .skip
noncomputable def c10 : Code := match c9 with | .seq x _ => x | _ => .skip
noncomputable def c11 : Code := match c10 with | .seq x _ => x | _ => .skip
noncomputable def c12 : Code := match c10 with | .seq _ x => x | _ => .skip
noncomputable def c13 : Code := match c12 with | .block _ x => x | _ => .skip
noncomputable def c14 : Code := match c13 with | .loop x => x | _ => .skip
noncomputable def c15 : Code := match c14 with | .seq x _ => x | _ => .skip
noncomputable def c16 : Code := match c15 with | .seq x _ => x | _ => .skip
noncomputable def c17 : Code := match c15 with | .seq _ x => x | _ => .skip
noncomputable def c18 : Code := match c17 with | .cond _ x _ => x | _ => .skip
noncomputable def c19 : Code := match c17 with | .cond _ _ x => x | _ => .skip
noncomputable def c20 : Code := match c14 with | .seq _ x => x | _ => .skip
noncomputable def c21 : Code := match c20 with | .seq x _ => x | _ => .skip
noncomputable def c22 : Code := match c21 with | .block _ x => x | _ => .skip
noncomputable def c23 : Code := match c22 with | .seq x _ => x | _ => .skip
noncomputable def c24 : Code := match c23 with | .seq x _ => x | _ => .skip
noncomputable def c25 : Code := match c23 with | .seq _ x => x | _ => .skip
noncomputable def c26 : Code := match c25 with | .cond _ x _ => x | _ => .skip
noncomputable def c27 : Code := match c25 with | .cond _ _ x => x | _ => .skip
noncomputable def c28 : Code := match c22 with | .seq _ x => x | _ => .skip
noncomputable def c29 : Code := match c28 with | .seq x _ => x | _ => .skip
noncomputable def c30 : Code := match c28 with | .seq _ x => x | _ => .skip
noncomputable def c31 : Code := match c30 with | .cond _ x _ => x | _ => .skip
noncomputable def c32 : Code := match c30 with | .cond _ _ x => x | _ => .skip
noncomputable def c33 : Code := match c20 with | .seq _ x => x | _ => .skip
noncomputable def c34 : Code := match c9 with | .seq _ x => x | _ => .skip
noncomputable def c35 : Code := match c34 with | .seq x _ => x | _ => .skip
noncomputable def c36 : Code := match c35 with | .seq x _ => x | _ => .skip
noncomputable def c37 : Code := match c35 with | .seq _ x => x | _ => .skip
noncomputable def c38 : Code := match c37 with | .cond _ x _ => x | _ => .skip
noncomputable def c39 : Code := match c38 with | .seq x _ => x | _ => .skip
noncomputable def c40 : Code := match c38 with | .seq _ x => x | _ => .skip
noncomputable def c41 : Code := match c37 with | .cond _ _ x => x | _ => .skip
noncomputable def c42 : Code := match c34 with | .seq _ x => x | _ => .skip
theorem e0 : c0 = .seq c1 c2 := by kernel_rfl
noncomputable def r1 : Array Oper := match c1 with | .region _ x _ => x | _ => #[]
theorem e1 : c1 = .region 0 r1 false := by kernel_rfl
theorem e2 : c2 = .seq c3 c4 := by kernel_rfl
noncomputable def r3 : Array Oper := match c3 with | .region _ x _ => x | _ => #[]
theorem e3 : c3 = .region 1 r3 false := by kernel_rfl
theorem e4 : c4 = .block 0 c5 := by kernel_rfl
theorem e5 : c5 = .loop c6 := by kernel_rfl
theorem e6 : c6 = .block 1 c7 := by kernel_rfl
theorem e7 : c7 = .seq c8 c9 := by kernel_rfl
noncomputable def r8 : Array Oper := match c8 with | .region _ x _ => x | _ => #[]
theorem e8 : c8 = .region 2 r8 false := by kernel_rfl
theorem e9 : c9 = .seq c10 c34 := by kernel_rfl
theorem e10 : c10 = .seq c11 c12 := by kernel_rfl
noncomputable def r11 : Array Oper := match c11 with | .region _ x _ => x | _ => #[]
theorem e11 : c11 = .region 3 r11 false := by kernel_rfl
theorem e12 : c12 = .block 2 c13 := by kernel_rfl
theorem e13 : c13 = .loop c14 := by kernel_rfl
theorem e14 : c14 = .seq c15 c20 := by kernel_rfl
theorem e15 : c15 = .seq c16 c17 := by kernel_rfl
noncomputable def r16 : Array Oper := match c16 with | .region _ x _ => x | _ => #[]
theorem e16 : c16 = .region 4 r16 false := by kernel_rfl
theorem e17 : c17 = .cond (.tmp 14) c18 c19 := by kernel_rfl
theorem e18 : c18 = .skip := by kernel_rfl
theorem e19 : c19 = .exit 2 := by kernel_rfl
theorem e20 : c20 = .seq c21 c33 := by kernel_rfl
theorem e21 : c21 = .block 3 c22 := by kernel_rfl
theorem e22 : c22 = .seq c23 c28 := by kernel_rfl
theorem e23 : c23 = .seq c24 c25 := by kernel_rfl
noncomputable def r24 : Array Oper := match c24 with | .region _ x _ => x | _ => #[]
theorem e24 : c24 = .region 6 r24 true := by kernel_rfl
theorem e25 : c25 = .cond (.tmp 48) c26 c27 := by kernel_rfl
theorem e26 : c26 = .exit 3 := by kernel_rfl
theorem e27 : c27 = .skip := by kernel_rfl
theorem e28 : c28 = .seq c29 c30 := by kernel_rfl
noncomputable def r29 : Array Oper := match c29 with | .region _ x _ => x | _ => #[]
theorem e29 : c29 = .region 7 r29 true := by kernel_rfl
theorem e30 : c30 = .cond (.tmp 67) c31 c32 := by kernel_rfl
noncomputable def r31 : Array Oper := match c31 with | .region _ x _ => x | _ => #[]
theorem e31 : c31 = .region 8 r31 false := by kernel_rfl
theorem e32 : c32 = .skip := by kernel_rfl
noncomputable def r33 : Array Oper := match c33 with | .region _ x _ => x | _ => #[]
theorem e33 : c33 = .region 5 r33 false := by kernel_rfl
theorem e34 : c34 = .seq c35 c42 := by kernel_rfl
theorem e35 : c35 = .seq c36 c37 := by kernel_rfl
noncomputable def r36 : Array Oper := match c36 with | .region _ x _ => x | _ => #[]
theorem e36 : c36 = .region 9 r36 false := by kernel_rfl
theorem e37 : c37 = .cond (.tmp 70) c38 c41 := by kernel_rfl
theorem e38 : c38 = .seq c39 c40 := by kernel_rfl
noncomputable def r39 : Array Oper := match c39 with | .region _ x _ => x | _ => #[]
theorem e39 : c39 = .region 10 r39 false := by kernel_rfl
theorem e40 : c40 = .ret := by kernel_rfl
theorem e41 : c41 = .skip := by kernel_rfl
noncomputable def r42 : Array Oper := match c42 with | .region _ x _ => x | _ => #[]
theorem e42 : c42 = .region 11 r42 false := by kernel_rfl
theorem body : Try.f12.body = some c0 := by kernel_rfl
section
variable {base : Nat} {W0 : World} {β0 : Bt}
def J3 (k : Nat) (rec0 : (Option HA) → Int → Sl → Int → Int → HS → Option ((Sl) × HS)) (rec1 : (Option HA) → Int → Sl → HS → Option ((Sl) × HS)) (y0 : (Option HA)) (y1 : Int) (y5 : Sl) (y6 : Int) (y7 : Int) (S : HS) : Option ((Sl) × HS) :=
  rec0 y0 y1 y5 y6 (w64 (y7 + 1)) S
theorem J3_snd {k : Nat} {rec0 : (Option HA) → Int → Sl → Int → Int → HS → Option ((Sl) × HS)} {rec1 : (Option HA) → Int → Sl → HS → Option ((Sl) × HS)} (hrec0 : ∀ ⦃y0 : (Option HA)⦄ ⦃y1 : Int⦄ ⦃y5 : Sl⦄ ⦃y6 : Int⦄ ⦃y7 : Int⦄ ⦃S : HS⦄ ⦃p : (Sl) × HS⦄ ⦃g2 g3 g4 g8 g9 g10 g11 g12 g13 g14 g15 g16 g17 g18 g19 g20 g21 g22 g23 g24 g25 g26 g27 g28 g29 g30 g31 g32 g33 g34 g35 g36 g37 g38 g39 g40 g41 g42 g43 g44 g45 g46 g47 g48 g49 g50 g51 g52 g53 g54 g55 g56 g57 g58 g59 g60 g61 g62 g63 g64 g65 g66 g67 g68 g69 g70 g71 g72 g73 g74 g75 g76 g77 g78 g79 g80 g81 : HV⦄, rec0 y0 y1 y5 y6 y7 S = some p → HRun Try.prog base W0 β0 12 none [.inLoop c14, .inBlock 2, .code c34, .inBlock 1, .inLoop c6, .inBlock 0] ⟨[(.ptr y0), (.int .i64 y1), g2, g3, g4, (Sl.hv y5), (.int .i64 y6), (.int .i64 y7), g8, g9, g10, g11, g12, g13, g14, g15, g16, g17, g18, g19, g20, g21, g22, g23, g24, g25, g26, g27, g28, g29, g30, g31, g32, g33, g34, g35, g36, g37, g38, g39, g40, g41, g42, g43, g44, g45, g46, g47, g48, g49, g50, g51, g52, g53, g54, g55, g56, g57, g58, g59, g60, g61, g62, g63, g64, g65, g66, g67, g68, g69, g70, g71, g72, g73, g74, g75, g76, g77, g78, g79, g80, g81], []⟩ S (fun v S1 => v = (Sl.hv p.1) ∧ S1 = p.2)) (hrec1 : ∀ ⦃y0 : (Option HA)⦄ ⦃y1 : Int⦄ ⦃y5 : Sl⦄ ⦃S : HS⦄ ⦃p : (Sl) × HS⦄ ⦃g2 g3 g4 g6 g7 g8 g9 g10 g11 g12 g13 g14 g15 g16 g17 g18 g19 g20 g21 g22 g23 g24 g25 g26 g27 g28 g29 g30 g31 g32 g33 g34 g35 g36 g37 g38 g39 g40 g41 g42 g43 g44 g45 g46 g47 g48 g49 g50 g51 g52 g53 g54 g55 g56 g57 g58 g59 g60 g61 g62 g63 g64 g65 g66 g67 g68 g69 g70 g71 g72 g73 g74 g75 g76 g77 g78 g79 g80 g81 : HV⦄, rec1 y0 y1 y5 S = some p → HRun Try.prog base W0 β0 12 none [.inLoop c6, .inBlock 0] ⟨[(.ptr y0), (.int .i64 y1), g2, g3, g4, (Sl.hv y5), g6, g7, g8, g9, g10, g11, g12, g13, g14, g15, g16, g17, g18, g19, g20, g21, g22, g23, g24, g25, g26, g27, g28, g29, g30, g31, g32, g33, g34, g35, g36, g37, g38, g39, g40, g41, g42, g43, g44, g45, g46, g47, g48, g49, g50, g51, g52, g53, g54, g55, g56, g57, g58, g59, g60, g61, g62, g63, g64, g65, g66, g67, g68, g69, g70, g71, g72, g73, g74, g75, g76, g77, g78, g79, g80, g81], []⟩ S (fun v S1 => v = (Sl.hv p.1) ∧ S1 = p.2)) {y0 : (Option HA)} {y1 : Int} {y5 : Sl} {y6 : Int} {y7 : Int} {S : HS} {p : (Sl) × HS} {g2 g3 g4 g8 g9 g10 g11 g12 g13 g14 g15 g16 g17 g18 g19 g20 g21 g22 g23 g24 g25 g26 g27 g28 g29 g30 g31 g32 g33 g34 g35 g36 g37 g38 g39 g40 g41 g42 g43 g44 g45 g46 g47 g48 g49 g50 g51 g52 g53 g54 g55 g56 g57 g58 g59 g60 g61 g62 g63 g64 g65 g66 g67 g68 g69 g70 g71 g72 g73 g74 g75 g76 g77 g78 g79 g80 g81 : HV} (h : J3 k rec0 rec1 y0 y1 y5 y6 y7 S = some p) : HRun Try.prog base W0 β0 12 none [.code c33, .inLoop c14, .inBlock 2, .code c34, .inBlock 1, .inLoop c6, .inBlock 0] ⟨[(.ptr y0), (.int .i64 y1), g2, g3, g4, (Sl.hv y5), (.int .i64 y6), (.int .i64 y7), g8, g9, g10, g11, g12, g13, g14, g15, g16, g17, g18, g19, g20, g21, g22, g23, g24, g25, g26, g27, g28, g29, g30, g31, g32, g33, g34, g35, g36, g37, g38, g39, g40, g41, g42, g43, g44, g45, g46, g47, g48, g49, g50, g51, g52, g53, g54, g55, g56, g57, g58, g59, g60, g61, g62, g63, g64, g65, g66, g67, g68, g69, g70, g71, g72, g73, g74, g75, g76, g77, g78, g79, g80, g81], []⟩ S (fun v S1 => v = (Sl.hv p.1) ∧ S1 = p.2) := by
  unfold J3 at h
  refine q_region e33 rfl ?_
  refine q_op (dst := some 15) rfl (fun _ ho => ok_move ho (.tmp rfl)) ?_
  refine q_op (dst := some 16) rfl (fun _ ho => ok_ibin ho (.tmp rfl) (.int _ _) rfl) ?_
  refine q_op (dst := some 7) rfl (fun _ ho => ok_assign ho (.tmp rfl)) ?_
  refine hr_region_end ?_
  try dsimp only [HAct.put, List.set_cons_zero, List.set_cons_succ]
  try dsimp only [HAct.put, List.set_cons_zero, List.set_cons_succ]
  exact hrec0 h
def J4 (k : Nat) (rec0 : (Option HA) → Int → Sl → Int → Int → HS → Option ((Sl) × HS)) (rec1 : (Option HA) → Int → Sl → HS → Option ((Sl) × HS)) (y0 : (Option HA)) (y1 : Int) (y5 : Sl) (y6 : Int) (y7 : Int) (y67 : Bool) (S : HS) : Option ((Sl) × HS) :=
  (if y67 = true then
  J3 k rec0 rec1 y0 y1 y5 y7 y7 S else
  J3 k rec0 rec1 y0 y1 y5 y6 y7 S)
theorem J4_snd {k : Nat} {rec0 : (Option HA) → Int → Sl → Int → Int → HS → Option ((Sl) × HS)} {rec1 : (Option HA) → Int → Sl → HS → Option ((Sl) × HS)} (hrec0 : ∀ ⦃y0 : (Option HA)⦄ ⦃y1 : Int⦄ ⦃y5 : Sl⦄ ⦃y6 : Int⦄ ⦃y7 : Int⦄ ⦃S : HS⦄ ⦃p : (Sl) × HS⦄ ⦃g2 g3 g4 g8 g9 g10 g11 g12 g13 g14 g15 g16 g17 g18 g19 g20 g21 g22 g23 g24 g25 g26 g27 g28 g29 g30 g31 g32 g33 g34 g35 g36 g37 g38 g39 g40 g41 g42 g43 g44 g45 g46 g47 g48 g49 g50 g51 g52 g53 g54 g55 g56 g57 g58 g59 g60 g61 g62 g63 g64 g65 g66 g67 g68 g69 g70 g71 g72 g73 g74 g75 g76 g77 g78 g79 g80 g81 : HV⦄, rec0 y0 y1 y5 y6 y7 S = some p → HRun Try.prog base W0 β0 12 none [.inLoop c14, .inBlock 2, .code c34, .inBlock 1, .inLoop c6, .inBlock 0] ⟨[(.ptr y0), (.int .i64 y1), g2, g3, g4, (Sl.hv y5), (.int .i64 y6), (.int .i64 y7), g8, g9, g10, g11, g12, g13, g14, g15, g16, g17, g18, g19, g20, g21, g22, g23, g24, g25, g26, g27, g28, g29, g30, g31, g32, g33, g34, g35, g36, g37, g38, g39, g40, g41, g42, g43, g44, g45, g46, g47, g48, g49, g50, g51, g52, g53, g54, g55, g56, g57, g58, g59, g60, g61, g62, g63, g64, g65, g66, g67, g68, g69, g70, g71, g72, g73, g74, g75, g76, g77, g78, g79, g80, g81], []⟩ S (fun v S1 => v = (Sl.hv p.1) ∧ S1 = p.2)) (hrec1 : ∀ ⦃y0 : (Option HA)⦄ ⦃y1 : Int⦄ ⦃y5 : Sl⦄ ⦃S : HS⦄ ⦃p : (Sl) × HS⦄ ⦃g2 g3 g4 g6 g7 g8 g9 g10 g11 g12 g13 g14 g15 g16 g17 g18 g19 g20 g21 g22 g23 g24 g25 g26 g27 g28 g29 g30 g31 g32 g33 g34 g35 g36 g37 g38 g39 g40 g41 g42 g43 g44 g45 g46 g47 g48 g49 g50 g51 g52 g53 g54 g55 g56 g57 g58 g59 g60 g61 g62 g63 g64 g65 g66 g67 g68 g69 g70 g71 g72 g73 g74 g75 g76 g77 g78 g79 g80 g81 : HV⦄, rec1 y0 y1 y5 S = some p → HRun Try.prog base W0 β0 12 none [.inLoop c6, .inBlock 0] ⟨[(.ptr y0), (.int .i64 y1), g2, g3, g4, (Sl.hv y5), g6, g7, g8, g9, g10, g11, g12, g13, g14, g15, g16, g17, g18, g19, g20, g21, g22, g23, g24, g25, g26, g27, g28, g29, g30, g31, g32, g33, g34, g35, g36, g37, g38, g39, g40, g41, g42, g43, g44, g45, g46, g47, g48, g49, g50, g51, g52, g53, g54, g55, g56, g57, g58, g59, g60, g61, g62, g63, g64, g65, g66, g67, g68, g69, g70, g71, g72, g73, g74, g75, g76, g77, g78, g79, g80, g81], []⟩ S (fun v S1 => v = (Sl.hv p.1) ∧ S1 = p.2)) {y0 : (Option HA)} {y1 : Int} {y5 : Sl} {y6 : Int} {y7 : Int} {y67 : Bool} {S : HS} {p : (Sl) × HS} {g2 g3 g4 g8 g9 g10 g11 g12 g13 g14 g15 g16 g17 g18 g19 g20 g21 g22 g23 g24 g25 g26 g27 g28 g29 g30 g31 g32 g33 g34 g35 g36 g37 g38 g39 g40 g41 g42 g43 g44 g45 g46 g47 g48 g49 g50 g51 g52 g53 g54 g55 g56 g57 g58 g59 g60 g61 g62 g63 g64 g65 g66 g68 g69 g70 g71 g72 g73 g74 g75 g76 g77 g78 g79 g80 g81 : HV} (h : J4 k rec0 rec1 y0 y1 y5 y6 y7 y67 S = some p) : HRun Try.prog base W0 β0 12 none [.code c30, .inBlock 3, .code c33, .inLoop c14, .inBlock 2, .code c34, .inBlock 1, .inLoop c6, .inBlock 0] ⟨[(.ptr y0), (.int .i64 y1), g2, g3, g4, (Sl.hv y5), (.int .i64 y6), (.int .i64 y7), g8, g9, g10, g11, g12, g13, g14, g15, g16, g17, g18, g19, g20, g21, g22, g23, g24, g25, g26, g27, g28, g29, g30, g31, g32, g33, g34, g35, g36, g37, g38, g39, g40, g41, g42, g43, g44, g45, g46, g47, g48, g49, g50, g51, g52, g53, g54, g55, g56, g57, g58, g59, g60, g61, g62, g63, g64, g65, g66, (.bool y67), g68, g69, g70, g71, g72, g73, g74, g75, g76, g77, g78, g79, g80, g81], []⟩ S (fun v S1 => v = (Sl.hv p.1) ∧ S1 = p.2) := by
  unfold J4 at h
  rcases ifc h with ⟨hc11, h⟩ | ⟨hc11, h⟩
  · refine q_cond_t e30 (.tmp rfl) hc11 ?_
    refine q_region e31 rfl ?_
    refine q_op (dst := some 68) rfl (fun _ ho => ok_move ho (.tmp rfl)) ?_
    refine q_op (dst := some 6) rfl (fun _ ho => ok_assign ho (.tmp rfl)) ?_
    refine hr_region_end ?_
    try dsimp only [HAct.put, List.set_cons_zero, List.set_cons_succ]
    refine hr_inBlock ?_
    try dsimp only [HAct.put, List.set_cons_zero, List.set_cons_succ]
    exact J3_snd hrec0 hrec1 h
  · refine q_cond_f e30 (.tmp rfl) (bfalse hc11) ?_
    refine q_skipc e32 ?_
    refine hr_inBlock ?_
    try dsimp only [HAct.put, List.set_cons_zero, List.set_cons_succ]
    exact J3_snd hrec0 hrec1 h
def J2 (k : Nat) (rec0 : (Option HA) → Int → Sl → Int → Int → HS → Option ((Sl) × HS)) (rec1 : (Option HA) → Int → Sl → HS → Option ((Sl) × HS)) (y0 : (Option HA)) (y1 : Int) (y5 : Sl) (y6 : Int) (y7 : Int) (y48 : Bool) (S : HS) : Option ((Sl) × HS) :=
  (if y48 = true then
  J3 k rec0 rec1 y0 y1 y5 y6 y7 S else
  (if y6 < 0 then
  J4 k rec0 rec1 y0 y1 y5 y6 y7 true S else
  (Option.bind (y0) fun p12 =>
  (Option.bind (HS.ldSl S (HA.fld p12 0)) fun p13 =>
  (Option.bind (HS.idx S p13 y7 2) fun p14 =>
  (Option.bind (HS.ldS S (HA.fld p14 0)) fun p15 =>
  (Option.bind (HS.ldI S .i64 (HA.fld p14 1)) fun p16 =>
  (Option.bind (y0) fun p17 =>
  (Option.bind (HS.ldSl S (HA.fld p17 0)) fun p18 =>
  (Option.bind (HS.idx S p18 y6 2) fun p19 =>
  (Option.bind (HS.ldS S (HA.fld p19 0)) fun p20 =>
  (Option.bind (HS.ldI S .i64 (HA.fld p19 1)) fun p21 =>
  (Option.bind (rollcallref09_ahead.f p15 p16 p20 p21 S) fun p22 =>
  J4 k rec0 rec1 y0 y1 y5 y6 y7 p22.1 p22.2)))))))))))))
theorem J2_snd {k : Nat} {rec0 : (Option HA) → Int → Sl → Int → Int → HS → Option ((Sl) × HS)} {rec1 : (Option HA) → Int → Sl → HS → Option ((Sl) × HS)} (hrec0 : ∀ ⦃y0 : (Option HA)⦄ ⦃y1 : Int⦄ ⦃y5 : Sl⦄ ⦃y6 : Int⦄ ⦃y7 : Int⦄ ⦃S : HS⦄ ⦃p : (Sl) × HS⦄ ⦃g2 g3 g4 g8 g9 g10 g11 g12 g13 g14 g15 g16 g17 g18 g19 g20 g21 g22 g23 g24 g25 g26 g27 g28 g29 g30 g31 g32 g33 g34 g35 g36 g37 g38 g39 g40 g41 g42 g43 g44 g45 g46 g47 g48 g49 g50 g51 g52 g53 g54 g55 g56 g57 g58 g59 g60 g61 g62 g63 g64 g65 g66 g67 g68 g69 g70 g71 g72 g73 g74 g75 g76 g77 g78 g79 g80 g81 : HV⦄, rec0 y0 y1 y5 y6 y7 S = some p → HRun Try.prog base W0 β0 12 none [.inLoop c14, .inBlock 2, .code c34, .inBlock 1, .inLoop c6, .inBlock 0] ⟨[(.ptr y0), (.int .i64 y1), g2, g3, g4, (Sl.hv y5), (.int .i64 y6), (.int .i64 y7), g8, g9, g10, g11, g12, g13, g14, g15, g16, g17, g18, g19, g20, g21, g22, g23, g24, g25, g26, g27, g28, g29, g30, g31, g32, g33, g34, g35, g36, g37, g38, g39, g40, g41, g42, g43, g44, g45, g46, g47, g48, g49, g50, g51, g52, g53, g54, g55, g56, g57, g58, g59, g60, g61, g62, g63, g64, g65, g66, g67, g68, g69, g70, g71, g72, g73, g74, g75, g76, g77, g78, g79, g80, g81], []⟩ S (fun v S1 => v = (Sl.hv p.1) ∧ S1 = p.2)) (hrec1 : ∀ ⦃y0 : (Option HA)⦄ ⦃y1 : Int⦄ ⦃y5 : Sl⦄ ⦃S : HS⦄ ⦃p : (Sl) × HS⦄ ⦃g2 g3 g4 g6 g7 g8 g9 g10 g11 g12 g13 g14 g15 g16 g17 g18 g19 g20 g21 g22 g23 g24 g25 g26 g27 g28 g29 g30 g31 g32 g33 g34 g35 g36 g37 g38 g39 g40 g41 g42 g43 g44 g45 g46 g47 g48 g49 g50 g51 g52 g53 g54 g55 g56 g57 g58 g59 g60 g61 g62 g63 g64 g65 g66 g67 g68 g69 g70 g71 g72 g73 g74 g75 g76 g77 g78 g79 g80 g81 : HV⦄, rec1 y0 y1 y5 S = some p → HRun Try.prog base W0 β0 12 none [.inLoop c6, .inBlock 0] ⟨[(.ptr y0), (.int .i64 y1), g2, g3, g4, (Sl.hv y5), g6, g7, g8, g9, g10, g11, g12, g13, g14, g15, g16, g17, g18, g19, g20, g21, g22, g23, g24, g25, g26, g27, g28, g29, g30, g31, g32, g33, g34, g35, g36, g37, g38, g39, g40, g41, g42, g43, g44, g45, g46, g47, g48, g49, g50, g51, g52, g53, g54, g55, g56, g57, g58, g59, g60, g61, g62, g63, g64, g65, g66, g67, g68, g69, g70, g71, g72, g73, g74, g75, g76, g77, g78, g79, g80, g81], []⟩ S (fun v S1 => v = (Sl.hv p.1) ∧ S1 = p.2)) {y0 : (Option HA)} {y1 : Int} {y5 : Sl} {y6 : Int} {y7 : Int} {y48 : Bool} {S : HS} {p : (Sl) × HS} {g2 g3 g4 g8 g9 g10 g11 g12 g13 g14 g15 g16 g17 g18 g19 g20 g21 g22 g23 g24 g25 g26 g27 g28 g29 g30 g31 g32 g33 g34 g35 g36 g37 g38 g39 g40 g41 g42 g43 g44 g45 g46 g47 g49 g50 g51 g52 g53 g54 g55 g56 g57 g58 g59 g60 g61 g62 g63 g64 g65 g66 g67 g68 g69 g70 g71 g72 g73 g74 g75 g76 g77 g78 g79 g80 g81 : HV} (h : J2 k rec0 rec1 y0 y1 y5 y6 y7 y48 S = some p) : HRun Try.prog base W0 β0 12 none [.code c25, .code c28, .inBlock 3, .code c33, .inLoop c14, .inBlock 2, .code c34, .inBlock 1, .inLoop c6, .inBlock 0] ⟨[(.ptr y0), (.int .i64 y1), g2, g3, g4, (Sl.hv y5), (.int .i64 y6), (.int .i64 y7), g8, g9, g10, g11, g12, g13, g14, g15, g16, g17, g18, g19, g20, g21, g22, g23, g24, g25, g26, g27, g28, g29, g30, g31, g32, g33, g34, g35, g36, g37, g38, g39, g40, g41, g42, g43, g44, g45, g46, g47, (.bool y48), g49, g50, g51, g52, g53, g54, g55, g56, g57, g58, g59, g60, g61, g62, g63, g64, g65, g66, g67, g68, g69, g70, g71, g72, g73, g74, g75, g76, g77, g78, g79, g80, g81], []⟩ S (fun v S1 => v = (Sl.hv p.1) ∧ S1 = p.2) := by
  unfold J2 at h
  rcases ifc h with ⟨hc9, h⟩ | ⟨hc9, h⟩
  · refine q_cond_t e25 (.tmp rfl) hc9 ?_
    refine q_exit e26 rfl ?_
    try dsimp only [HAct.put, List.set_cons_zero, List.set_cons_succ]
    exact J3_snd hrec0 hrec1 h
  · refine q_cond_f e25 (.tmp rfl) (bfalse hc9) ?_
    refine q_skipc e27 ?_
    refine q_seq e28 ?_
    refine x_start (cls := [0, 0, 0, 0, 0, 0, 1, 0, 1, 1, 0, 0, 0, 1, 0, 1, 1, 2, 0]) (rk := [0, 1, 2, 3, 4, 5, 6, 7, 8, 9, 10, 11, 12, 13, 14, 15, 16, 17, 18]) e29 (by kernel_rfl) ?_
    refine x_go (f_op (dst := some 49) (ts := [6]) rfl (by intro _ _ h; cases h) (by kernel_rfl) (fun _ _ ho => ok_move ho (.tmp rfl))) rfl ?_
    refine x_go (f_op (dst := some 50) (ts := [49]) rfl (by intro _ _ h; cases h) (by kernel_rfl) (fun _ _ ho => ok_ibin ho (.tmp rfl) (.int _ _) rfl)) rfl ?_
    refine x_go (f_op (dst := some 51) (ts := [50]) rfl (by intro _ _ h; cases h) (by kernel_rfl) (fun _ _ ho => ok_move ho (.tmp rfl))) rfl ?_
    rcases ifc h with ⟨hc10, h⟩ | ⟨hc10, h⟩
    · refine x_go (f_skip (dst := some 52) (t := 51) (ts := [0, 51]) rfl (by kernel_rfl) rfl rfl (decide_eq_true hc10)) rfl ?_
      try dsimp only [HAct.put, List.set_cons_zero, List.set_cons_succ]
      refine x_go (f_skip (dst := some 53) (t := 51) (ts := [52, 51]) rfl (by kernel_rfl) rfl rfl (decide_eq_true hc10)) rfl ?_
      refine x_go (f_skip (dst := some 54) (t := 51) (ts := [53, 51]) rfl (by kernel_rfl) rfl rfl (decide_eq_true hc10)) rfl ?_
      refine x_go (r_skip (dst := some 55) (t := 51) (ts := [54, 51]) rfl (by kernel_rfl) rfl rfl (decide_eq_true hc10)) rfl ?_
      refine x_go (f_skip (dst := some 56) (t := 51) (ts := [7, 51]) rfl (by kernel_rfl) rfl rfl (decide_eq_true hc10)) rfl ?_
      try dsimp only [HAct.put, List.set_cons_zero, List.set_cons_succ]
      refine x_go (r_skip (dst := some 57) (t := 51) (ts := [55, 56, 51]) rfl (by kernel_rfl) rfl rfl (decide_eq_true hc10)) rfl ?_
      refine x_go (r_skip (dst := some 58) (t := 51) (ts := [57, 51]) rfl (by kernel_rfl) rfl rfl (decide_eq_true hc10)) rfl ?_
      refine x_go (f_skip (dst := some 59) (t := 51) (ts := [0, 51]) rfl (by kernel_rfl) rfl rfl (decide_eq_true hc10)) rfl ?_
      refine x_go (f_skip (dst := some 60) (t := 51) (ts := [59, 51]) rfl (by kernel_rfl) rfl rfl (decide_eq_true hc10)) rfl ?_
      try dsimp only [HAct.put, List.set_cons_zero, List.set_cons_succ]
      refine x_go (f_skip (dst := some 61) (t := 51) (ts := [60, 51]) rfl (by kernel_rfl) rfl rfl (decide_eq_true hc10)) rfl ?_
      refine x_go (r_skip (dst := some 62) (t := 51) (ts := [61, 51]) rfl (by kernel_rfl) rfl rfl (decide_eq_true hc10)) rfl ?_
      refine x_go (f_skip (dst := some 63) (t := 51) (ts := [6, 51]) rfl (by kernel_rfl) rfl rfl (decide_eq_true hc10)) rfl ?_
      refine x_go (r_skip (dst := some 64) (t := 51) (ts := [62, 63, 51]) rfl (by kernel_rfl) rfl rfl (decide_eq_true hc10)) rfl ?_
      try dsimp only [HAct.put, List.set_cons_zero, List.set_cons_succ]
      refine x_go (r_skip (dst := some 65) (t := 51) (ts := [64, 51]) rfl (by kernel_rfl) rfl rfl (decide_eq_true hc10)) rfl ?_
      refine x_go (e_skip (dst := some 66) (t := 51) (ts := [58, 65, 51]) rfl (by kernel_rfl) rfl rfl (decide_eq_true hc10)) rfl ?_
      refine x_go (f_op (dst := some 67) (ts := [51, 66]) rfl (by intro _ _ h; cases h) (by kernel_rfl) (fun _ _ ho => ok_pick_tt ho (.tmp rfl) (decide_eq_true hc10) (.bool _))) rfl ?_
      refine x_rest rfl ?_
      refine hr_region_end ?_
      try dsimp only [HAct.put, List.set_cons_zero, List.set_cons_succ]
      try dsimp only [HAct.put, List.set_cons_zero, List.set_cons_succ]
      exact J4_snd hrec0 hrec1 h
    · refine x_go (f_op_g (dst := some 52) (t := 51) (ts := [0, 51]) rfl (by intro _ _ h; cases h) (by kernel_rfl) rfl rfl (decide_eq_false hc10) (fun _ _ ho => ok_move ho (.tmp rfl))) rfl ?_
      try dsimp only [HAct.put, List.set_cons_zero, List.set_cons_succ]
      obtain ⟨p12, hp12, h⟩ := bindo h
      refine x_go (f_op_g (dst := some 53) (t := 51) (ts := [52, 51]) rfl (by intro _ _ h; cases h) (by kernel_rfl) rfl rfl (decide_eq_false hc10) (fun _ _ ho => ok_nilCheck_p ho (.tmp rfl) hp12)) rfl ?_
      refine x_go (f_op_g (dst := some 54) (t := 51) (ts := [53, 51]) rfl (by intro _ _ h; cases h) (by kernel_rfl) rfl rfl (decide_eq_false hc10) (fun _ _ ho => ok_fieldAddr_s ho fi30_0 (by decide) (.tmp rfl) rfl)) rfl ?_
      obtain ⟨p13, hp13, h⟩ := bindo h
      refine x_go (r_op_g (dst := some 55) (t := 51) (ts := [54, 51]) rfl (by intro _ _ h; cases h) (by kernel_rfl) rfl rfl (decide_eq_false hc10) (fun _ ho => ok_load_s ho sc28 (.tmp rfl) rfl (ldSl_out hp13))) rfl ?_
      refine x_go (f_op_g (dst := some 56) (t := 51) (ts := [7, 51]) rfl (by intro _ _ h; cases h) (by kernel_rfl) rfl rfl (decide_eq_false hc10) (fun _ _ ho => ok_move ho (.tmp rfl))) rfl ?_
      try dsimp only [HAct.put, List.set_cons_zero, List.set_cons_succ]
      obtain ⟨p14, hp14, h⟩ := bindo h
      refine x_go (r_op_g (dst := some 57) (t := 51) (ts := [55, 56, 51]) rfl (by intro _ _ h; cases h) (by kernel_rfl) rfl rfl (decide_eq_false hc10) (fun _ ho => ok_indexAddr (s := p13) ho tu28 sz38 (.tmp rfl) (.tmp rfl) hp14)) rfl ?_
      obtain ⟨p15, hp15, h⟩ := bindo h
      obtain ⟨p16, hp16, h⟩ := bindo h
      refine x_go (r_op_g (dst := some 58) (t := 51) (ts := [57, 51]) rfl (by intro _ _ h; cases h) (by kernel_rfl) rfl rfl (decide_eq_false hc10) (fun _ ho => ok_load_a (vs := [(.str p15), (.int .i64 p16)]) ho ia38 (.tmp rfl) rfl ⟨ldS_out hp15, ldI_out hp16, trivial⟩ (by simp))) rfl ?_
      refine x_go (f_op_g (dst := some 59) (t := 51) (ts := [0, 51]) rfl (by intro _ _ h; cases h) (by kernel_rfl) rfl rfl (decide_eq_false hc10) (fun _ _ ho => ok_move ho (.tmp rfl))) rfl ?_
      obtain ⟨p17, hp17, h⟩ := bindo h
      refine x_go (f_op_g (dst := some 60) (t := 51) (ts := [59, 51]) rfl (by intro _ _ h; cases h) (by kernel_rfl) rfl rfl (decide_eq_false hc10) (fun _ _ ho => ok_nilCheck_p ho (.tmp rfl) hp17)) rfl ?_
      try dsimp only [HAct.put, List.set_cons_zero, List.set_cons_succ]
      refine x_go (f_op_g (dst := some 61) (t := 51) (ts := [60, 51]) rfl (by intro _ _ h; cases h) (by kernel_rfl) rfl rfl (decide_eq_false hc10) (fun _ _ ho => ok_fieldAddr_s ho fi30_0 (by decide) (.tmp rfl) rfl)) rfl ?_
      obtain ⟨p18, hp18, h⟩ := bindo h
      refine x_go (r_op_g (dst := some 62) (t := 51) (ts := [61, 51]) rfl (by intro _ _ h; cases h) (by kernel_rfl) rfl rfl (decide_eq_false hc10) (fun _ ho => ok_load_s ho sc28 (.tmp rfl) rfl (ldSl_out hp18))) rfl ?_
      refine x_go (f_op_g (dst := some 63) (t := 51) (ts := [6, 51]) rfl (by intro _ _ h; cases h) (by kernel_rfl) rfl rfl (decide_eq_false hc10) (fun _ _ ho => ok_move ho (.tmp rfl))) rfl ?_
      obtain ⟨p19, hp19, h⟩ := bindo h
      refine x_go (r_op_g (dst := some 64) (t := 51) (ts := [62, 63, 51]) rfl (by intro _ _ h; cases h) (by kernel_rfl) rfl rfl (decide_eq_false hc10) (fun _ ho => ok_indexAddr (s := p18) ho tu28 sz38 (.tmp rfl) (.tmp rfl) hp19)) rfl ?_
      try dsimp only [HAct.put, List.set_cons_zero, List.set_cons_succ]
      obtain ⟨p20, hp20, h⟩ := bindo h
      obtain ⟨p21, hp21, h⟩ := bindo h
      refine x_go (r_op_g (dst := some 65) (t := 51) (ts := [64, 51]) rfl (by intro _ _ h; cases h) (by kernel_rfl) rfl rfl (decide_eq_false hc10) (fun _ ho => ok_load_a (vs := [(.str p20), (.int .i64 p21)]) ho ia38 (.tmp rfl) rfl ⟨ldS_out hp20, ldI_out hp21, trivial⟩ (by simp))) rfl ?_
      obtain ⟨p22, hp22, h⟩ := bindo h
      refine x_go (e_call_g (dst := some 66) (t := 51) (ts := [58, 65, 51]) rfl (by kernel_rfl) rfl rfl (decide_eq_false hc10) (.func _) (.cons (.tmp rfl) (.cons (.tmp rfl) Evs.nil)) (HInv.static rollcallref09_ahead.at_ rollcallref09_ahead.body (rollcallref09_ahead.snd  hp22))) rfl ?_
      refine x_go (f_op (dst := some 67) (ts := [51, 66]) rfl (by intro _ _ h; cases h) (by kernel_rfl) (fun _ _ ho => ok_pick_ff ho (.tmp rfl) (decide_eq_false hc10) (.tmp rfl))) rfl ?_
      refine x_rest rfl ?_
      refine hr_region_end ?_
      try dsimp only [HAct.put, List.set_cons_zero, List.set_cons_succ]
      try dsimp only [HAct.put, List.set_cons_zero, List.set_cons_succ]
      exact J4_snd hrec0 hrec1 h
def L1 (k : Nat) (rec0 : (Option HA) → Int → Sl → HS → Option ((Sl) × HS)) : Nat → (Option HA) → Int → Sl → Int → Int → HS → Option ((Sl) × HS)
  | 0, _, _, _, _, _, _ => none
  | n + 1, y0, y1, y5, y6, y7, S =>
    (Option.bind (y0) fun p1 =>
    (Option.bind (HS.ldSl S (HA.fld p1 0)) fun p2 =>
    (if y7 < (Sl.len p2 : Int) then
    (Option.bind (y0) fun p4 =>
    (Option.bind (HS.ldSl S (HA.fld p4 0)) fun p5 =>
    (Option.bind (HS.idx S p5 y7 2) fun p6 =>
    (Option.bind (HS.ldI S .i64 (HA.fld p6 1)) fun p7 =>
    (if p7 > y1 then
    J2 k (L1 k rec0 n) rec0 y0 y1 y5 y6 y7 true S else
    (if (Sl.len y5 : Int) > 0 then
    (Option.bind (HS.idx S y5 (w64 ((Sl.len y5 : Int) - 1)) 2) fun p24 =>
    (Option.bind (HS.ldS S (HA.fld p24 0)) fun p25 =>
    (Option.bind (HS.ldI S .i64 (HA.fld p24 1)) fun p26 =>
    (Option.bind (y0) fun p27 =>
    (Option.bind (HS.ldSl S (HA.fld p27 0)) fun p28 =>
    (Option.bind (HS.idx S p28 y7 2) fun p29 =>
    (Option.bind (HS.ldS S (HA.fld p29 0)) fun p30 =>
    (Option.bind (HS.ldI S .i64 (HA.fld p29 1)) fun p31 =>
    (Option.bind (rollcallref09_ahead.f p25 p26 p30 p31 S) fun p32 =>
    J2 k (L1 k rec0 n) rec0 y0 y1 y5 y6 y7 (!p32.1) p32.2))))))))) else
    J2 k (L1 k rec0 n) rec0 y0 y1 y5 y6 y7 false S)))))) else
    (if y6 < 0 then
    some (y5, S) else
    (Option.bind (y0) fun p34 =>
    (Option.bind (HS.ldSl S (HA.fld p34 0)) fun p35 =>
    (Option.bind (HS.idx S p35 y6 2) fun p36 =>
    (Option.bind (HS.ldS S (HA.fld p36 0)) fun p37 =>
    (Option.bind (HS.ldI S .i64 (HA.fld p36 1)) fun p38 =>
    (letv (HS.lit S [[(.str p37), (.int .i64 p38)]] 2) fun p39 =>
    (Option.bind (HS.rows (p39.2) (p39.1) 2) fun p40 =>
    (Option.bind (HS.app (p39.2) y5 p40 2) fun p41 =>
    rec0 y0 y1 (p41.1) (p41.2)))))))))))))
theorem L1_snd {k : Nat} {rec0 : (Option HA) → Int → Sl → HS → Option ((Sl) × HS)} (hrec0 : ∀ ⦃y0 : (Option HA)⦄ ⦃y1 : Int⦄ ⦃y5 : Sl⦄ ⦃S : HS⦄ ⦃p : (Sl) × HS⦄ ⦃g2 g3 g4 g6 g7 g8 g9 g10 g11 g12 g13 g14 g15 g16 g17 g18 g19 g20 g21 g22 g23 g24 g25 g26 g27 g28 g29 g30 g31 g32 g33 g34 g35 g36 g37 g38 g39 g40 g41 g42 g43 g44 g45 g46 g47 g48 g49 g50 g51 g52 g53 g54 g55 g56 g57 g58 g59 g60 g61 g62 g63 g64 g65 g66 g67 g68 g69 g70 g71 g72 g73 g74 g75 g76 g77 g78 g79 g80 g81 : HV⦄, rec0 y0 y1 y5 S = some p → HRun Try.prog base W0 β0 12 none [.inLoop c6, .inBlock 0] ⟨[(.ptr y0), (.int .i64 y1), g2, g3, g4, (Sl.hv y5), g6, g7, g8, g9, g10, g11, g12, g13, g14, g15, g16, g17, g18, g19, g20, g21, g22, g23, g24, g25, g26, g27, g28, g29, g30, g31, g32, g33, g34, g35, g36, g37, g38, g39, g40, g41, g42, g43, g44, g45, g46, g47, g48, g49, g50, g51, g52, g53, g54, g55, g56, g57, g58, g59, g60, g61, g62, g63, g64, g65, g66, g67, g68, g69, g70, g71, g72, g73, g74, g75, g76, g77, g78, g79, g80, g81], []⟩ S (fun v S1 => v = (Sl.hv p.1) ∧ S1 = p.2)) : ∀ {n : Nat} ⦃y0 : (Option HA)⦄ ⦃y1 : Int⦄ ⦃y5 : Sl⦄ ⦃y6 : Int⦄ ⦃y7 : Int⦄ ⦃S : HS⦄ ⦃p : (Sl) × HS⦄ ⦃g2 g3 g4 g8 g9 g10 g11 g12 g13 g14 g15 g16 g17 g18 g19 g20 g21 g22 g23 g24 g25 g26 g27 g28 g29 g30 g31 g32 g33 g34 g35 g36 g37 g38 g39 g40 g41 g42 g43 g44 g45 g46 g47 g48 g49 g50 g51 g52 g53 g54 g55 g56 g57 g58 g59 g60 g61 g62 g63 g64 g65 g66 g67 g68 g69 g70 g71 g72 g73 g74 g75 g76 g77 g78 g79 g80 g81 : HV⦄, L1 k rec0 n y0 y1 y5 y6 y7 S = some p → HRun Try.prog base W0 β0 12 none [.inLoop c14, .inBlock 2, .code c34, .inBlock 1, .inLoop c6, .inBlock 0] ⟨[(.ptr y0), (.int .i64 y1), g2, g3, g4, (Sl.hv y5), (.int .i64 y6), (.int .i64 y7), g8, g9, g10, g11, g12, g13, g14, g15, g16, g17, g18, g19, g20, g21, g22, g23, g24, g25, g26, g27, g28, g29, g30, g31, g32, g33, g34, g35, g36, g37, g38, g39, g40, g41, g42, g43, g44, g45, g46, g47, g48, g49, g50, g51, g52, g53, g54, g55, g56, g57, g58, g59, g60, g61, g62, g63, g64, g65, g66, g67, g68, g69, g70, g71, g72, g73, g74, g75, g76, g77, g78, g79, g80, g81], []⟩ S (fun v S1 => v = (Sl.hv p.1) ∧ S1 = p.2) := by
  intro n
  induction n with
  | zero => intro _ _ _ _ _ _ _ _ _ _ _ _ _ _ _ _ _ _ _ _ _ _ _ _ _ _ _ _ _ _ _ _ _ _ _ _ _ _ _ _ _ _ _ _ _ _ _ _ _ _ _ _ _ _ _ _ _ _ _ _ _ _ _ _ _ _ _ _ _ _ _ _ _ _ _ _ _ _ _ _ _ _ _ _ h; cases h
  | succ n ih =>
    intro y0 y1 y5 y6 y7 S p g2 g3 g4 g8 g9 g10 g11 g12 g13 g14 g15 g16 g17 g18 g19 g20 g21 g22 g23 g24 g25 g26 g27 g28 g29 g30 g31 g32 g33 g34 g35 g36 g37 g38 g39 g40 g41 g42 g43 g44 g45 g46 g47 g48 g49 g50 g51 g52 g53 g54 g55 g56 g57 g58 g59 g60 g61 g62 g63 g64 g65 g66 g67 g68 g69 g70 g71 g72 g73 g74 g75 g76 g77 g78 g79 g80 g81 h
    simp only [L1] at h
    refine hr_inLoop ?_
    refine q_seq e14 ?_
    refine q_seq e15 ?_
    refine q_region e16 rfl ?_
    refine q_op (dst := some 8) rfl (fun _ ho => ok_move ho (.tmp rfl)) ?_
    refine q_op (dst := some 9) rfl (fun _ ho => ok_move ho (.tmp rfl)) ?_
    obtain ⟨p1, hp1, h⟩ := bindo h
    refine q_op (dst := some 10) rfl (fun _ ho => ok_nilCheck_p ho (.tmp rfl) hp1) ?_
    refine q_op (dst := some 11) rfl (fun _ ho => ok_fieldAddr_s ho fi30_0 (by decide) (.tmp rfl) rfl) ?_
    try dsimp only [HAct.put, List.set_cons_zero, List.set_cons_succ]
    obtain ⟨p2, hp2, h⟩ := bindo h
    refine q_op (dst := some 12) rfl (fun _ ho => ok_load_s ho sc28 (.tmp rfl) rfl (ldSl_out hp2)) ?_
    refine q_op (dst := some 13) rfl (fun _ ho => ok_len_sl (q := Sl.a p2) (n := Sl.len p2) (z := Sl.cap p2) ho rfl tu28 (.tmp rfl)) ?_
    refine q_op (dst := some 14) rfl (fun _ ho => ok_ibin ho (.tmp rfl) (.tmp rfl) rfl) ?_
    refine hr_region_end ?_
    try dsimp only [HAct.put, List.set_cons_zero, List.set_cons_succ]
    rcases ifc h with ⟨hc3, h⟩ | ⟨hc3, h⟩
    · refine q_cond_t e17 (.tmp rfl) (decide_eq_true hc3) ?_
      refine q_skipc e18 ?_
      refine q_seq e20 ?_
      refine q_block e21 ?_
      refine q_seq e22 ?_
      refine q_seq e23 ?_
      refine x_start (cls := [0, 0, 0, 1, 0, 1, 0, 1, 0, 0, 0, 0, 0, 0, 0, 0, 0, 0, 0, 1, 1, 0, 0, 0, 1, 0, 1, 1, 2, 0, 0, 0]) (rk := [0, 1, 2, 3, 4, 5, 6, 7, 8, 9, 10, 11, 12, 13, 14, 15, 16, 17, 18, 19, 20, 21, 22, 23, 24, 25, 26, 27, 28, 29, 30, 31]) e24 (by kernel_rfl) ?_
      refine x_go (f_op (dst := some 17) (ts := [0]) rfl (by intro _ _ h; cases h) (by kernel_rfl) (fun _ _ ho => ok_move ho (.tmp rfl))) rfl ?_
      obtain ⟨p4, hp4, h⟩ := bindo h
      refine x_go (f_op (dst := some 18) (ts := [17]) rfl (by intro _ _ h; cases h) (by kernel_rfl) (fun _ _ ho => ok_nilCheck_p ho (.tmp rfl) hp4)) rfl ?_
      refine x_go (f_op (dst := some 19) (ts := [18]) rfl (by intro _ _ h; cases h) (by kernel_rfl) (fun _ _ ho => ok_fieldAddr_s ho fi30_0 (by decide) (.tmp rfl) rfl)) rfl ?_
      obtain ⟨p5, hp5, h⟩ := bindo h
      refine x_go (r_op (dst := some 20) (ts := [19]) rfl (by intro _ _ h; cases h) (by kernel_rfl) (fun _ ho => ok_load_s ho sc28 (.tmp rfl) rfl (ldSl_out hp5))) rfl ?_
      try dsimp only [HAct.put, List.set_cons_zero, List.set_cons_succ]
      refine x_go (f_op (dst := some 21) (ts := [7]) rfl (by intro _ _ h; cases h) (by kernel_rfl) (fun _ _ ho => ok_move ho (.tmp rfl))) rfl ?_
      obtain ⟨p6, hp6, h⟩ := bindo h
      refine x_go (r_op (dst := some 22) (ts := [20, 21]) rfl (by intro _ _ h; cases h) (by kernel_rfl) (fun _ ho => ok_indexAddr (s := p5) ho tu28 sz38 (.tmp rfl) (.tmp rfl) hp6)) rfl ?_
      refine x_go (f_op (dst := some 23) (ts := [22]) rfl (by intro _ _ h; cases h) (by kernel_rfl) (fun _ _ ho => ok_fieldAddr_s ho fi38_1 (by decide) (.tmp rfl) rfl)) rfl ?_
      obtain ⟨p7, hp7, h⟩ := bindo h
      refine x_go (r_op (dst := some 24) (ts := [23]) rfl (by intro _ _ h; cases h) (by kernel_rfl) (fun _ ho => ok_load_s ho sc3 (.tmp rfl) rfl (ldI_out hp7))) rfl ?_
      try dsimp only [HAct.put, List.set_cons_zero, List.set_cons_succ]
      refine x_go (f_op (dst := some 25) (ts := [1]) rfl (by intro _ _ h; cases h) (by kernel_rfl) (fun _ _ ho => ok_move ho (.tmp rfl))) rfl ?_
      refine x_go (f_op (dst := some 26) (ts := [24, 25]) rfl (by intro _ _ h; cases h) (by kernel_rfl) (fun _ _ ho => ok_ibin ho (.tmp rfl) (.tmp rfl) rfl)) rfl ?_
      refine x_go (f_op (dst := some 27) (ts := [26]) rfl (by intro _ _ h; cases h) (by kernel_rfl) (fun _ _ ho => ok_move ho (.tmp rfl))) rfl ?_
      rcases ifc h with ⟨hc8, h⟩ | ⟨hc8, h⟩
      · refine x_go (f_skip (dst := some 28) (t := 27) (ts := [5, 27]) rfl (by kernel_rfl) rfl rfl (decide_eq_true hc8)) rfl ?_
        try dsimp only [HAct.put, List.set_cons_zero, List.set_cons_succ]
        refine x_go (f_skip (dst := some 29) (t := 27) (ts := [28, 27]) rfl (by kernel_rfl) rfl rfl (decide_eq_true hc8)) rfl ?_
        refine x_go (f_skip (dst := some 30) (t := 27) (ts := [29, 27]) rfl (by kernel_rfl) rfl rfl (decide_eq_true hc8)) rfl ?_
        refine x_go (f_skip (dst := some 31) (t := 27) (ts := [30, 27]) rfl (by kernel_rfl) rfl rfl (decide_eq_true hc8)) rfl ?_
        refine x_go (f_skip_u (dst := some 32) (t := 31) (ts := [5, 31]) rfl (by kernel_rfl) rfl rfl) rfl ?_
        try dsimp only [HAct.put, List.set_cons_zero, List.set_cons_succ]
        refine x_go (f_skip_u (dst := some 33) (t := 31) (ts := [5, 31]) rfl (by kernel_rfl) rfl rfl) rfl ?_
        refine x_go (f_skip_u (dst := some 34) (t := 31) (ts := [33, 31]) rfl (by kernel_rfl) rfl rfl) rfl ?_
        refine x_go (f_skip_u (dst := some 35) (t := 31) (ts := [34, 31]) rfl (by kernel_rfl) rfl rfl) rfl ?_
        refine x_go (r_skip_u (dst := some 36) (t := 31) (ts := [32, 35, 31]) rfl (by kernel_rfl) rfl rfl) rfl ?_
        try dsimp only [HAct.put, List.set_cons_zero, List.set_cons_succ]
        refine x_go (r_skip_u (dst := some 37) (t := 31) (ts := [36, 31]) rfl (by kernel_rfl) rfl rfl) rfl ?_
        refine x_go (f_skip_u (dst := some 38) (t := 31) (ts := [0, 31]) rfl (by kernel_rfl) rfl rfl) rfl ?_
        refine x_go (f_skip_u (dst := some 39) (t := 31) (ts := [38, 31]) rfl (by kernel_rfl) rfl rfl) rfl ?_
        refine x_go (f_skip_u (dst := some 40) (t := 31) (ts := [39, 31]) rfl (by kernel_rfl) rfl rfl) rfl ?_
        try dsimp only [HAct.put, List.set_cons_zero, List.set_cons_succ]
        refine x_go (r_skip_u (dst := some 41) (t := 31) (ts := [40, 31]) rfl (by kernel_rfl) rfl rfl) rfl ?_
        refine x_go (f_skip_u (dst := some 42) (t := 31) (ts := [7, 31]) rfl (by kernel_rfl) rfl rfl) rfl ?_
        refine x_go (r_skip_u (dst := some 43) (t := 31) (ts := [41, 42, 31]) rfl (by kernel_rfl) rfl rfl) rfl ?_
        refine x_go (r_skip_u (dst := some 44) (t := 31) (ts := [43, 31]) rfl (by kernel_rfl) rfl rfl) rfl ?_
        try dsimp only [HAct.put, List.set_cons_zero, List.set_cons_succ]
        refine x_go (e_skip_u (dst := some 45) (t := 31) (ts := [37, 44, 31]) rfl (by kernel_rfl) rfl rfl) rfl ?_
        refine x_go (f_skip_u (dst := some 46) (t := 31) (ts := [45, 31]) rfl (by kernel_rfl) rfl rfl) rfl ?_
        refine x_go (f_skip (dst := some 47) (t := 27) (ts := [31, 46, 27]) rfl (by kernel_rfl) rfl rfl (decide_eq_true hc8)) rfl ?_
        refine x_go (f_op (dst := some 48) (ts := [27, 47]) rfl (by intro _ _ h; cases h) (by kernel_rfl) (fun _ _ ho => ok_pick_tt ho (.tmp rfl) (decide_eq_true hc8) (.bool _))) rfl ?_
        refine x_rest rfl ?_
        refine hr_region_end ?_
        try dsimp only [HAct.put, List.set_cons_zero, List.set_cons_succ]
        try dsimp only [HAct.put, List.set_cons_zero, List.set_cons_succ]
        exact J2_snd ih hrec0 h
      · refine x_go (f_op_g (dst := some 28) (t := 27) (ts := [5, 27]) rfl (by intro _ _ h; cases h) (by kernel_rfl) rfl rfl (decide_eq_false hc8) (fun _ _ ho => ok_move ho (.tmp rfl))) rfl ?_
        try dsimp only [HAct.put, List.set_cons_zero, List.set_cons_succ]
        refine x_go (f_op_g (dst := some 29) (t := 27) (ts := [28, 27]) rfl (by intro _ _ h; cases h) (by kernel_rfl) rfl rfl (decide_eq_false hc8) (fun _ _ ho => ok_len_sl (q := Sl.a y5) (n := Sl.len y5) (z := Sl.cap y5) ho rfl tu28 (.tmp rfl))) rfl ?_
        refine x_go (f_op_g (dst := some 30) (t := 27) (ts := [29, 27]) rfl (by intro _ _ h; cases h) (by kernel_rfl) rfl rfl (decide_eq_false hc8) (fun _ _ ho => ok_ibin ho (.tmp rfl) (.int _ _) rfl)) rfl ?_
        refine x_go (f_op_g (dst := some 31) (t := 27) (ts := [30, 27]) rfl (by intro _ _ h; cases h) (by kernel_rfl) rfl rfl (decide_eq_false hc8) (fun _ _ ho => ok_move ho (.tmp rfl))) rfl ?_
        rcases ifc h with ⟨hc23, h⟩ | ⟨hc23, h⟩
        · refine x_go (f_op_g (dst := some 32) (t := 31) (ts := [5, 31]) rfl (by intro _ _ h; cases h) (by kernel_rfl) rfl rfl (decide_eq_true hc23) (fun _ _ ho => ok_move ho (.tmp rfl))) rfl ?_
          try dsimp only [HAct.put, List.set_cons_zero, List.set_cons_succ]
          refine x_go (f_op_g (dst := some 33) (t := 31) (ts := [5, 31]) rfl (by intro _ _ h; cases h) (by kernel_rfl) rfl rfl (decide_eq_true hc23) (fun _ _ ho => ok_move ho (.tmp rfl))) rfl ?_
          refine x_go (f_op_g (dst := some 34) (t := 31) (ts := [33, 31]) rfl (by intro _ _ h; cases h) (by kernel_rfl) rfl rfl (decide_eq_true hc23) (fun _ _ ho => ok_len_sl (q := Sl.a y5) (n := Sl.len y5) (z := Sl.cap y5) ho rfl tu28 (.tmp rfl))) rfl ?_
          refine x_go (f_op_g (dst := some 35) (t := 31) (ts := [34, 31]) rfl (by intro _ _ h; cases h) (by kernel_rfl) rfl rfl (decide_eq_true hc23) (fun _ _ ho => ok_ibin ho (.tmp rfl) (.int _ _) rfl)) rfl ?_
          obtain ⟨p24, hp24, h⟩ := bindo h
          refine x_go (r_op_g (dst := some 36) (t := 31) (ts := [32, 35, 31]) rfl (by intro _ _ h; cases h) (by kernel_rfl) rfl rfl (decide_eq_true hc23) (fun _ ho => ok_indexAddr (s := y5) ho tu28 sz38 (.tmp rfl) (.tmp rfl) hp24)) rfl ?_
          try dsimp only [HAct.put, List.set_cons_zero, List.set_cons_succ]
          obtain ⟨p25, hp25, h⟩ := bindo h
          obtain ⟨p26, hp26, h⟩ := bindo h
          refine x_go (r_op_g (dst := some 37) (t := 31) (ts := [36, 31]) rfl (by intro _ _ h; cases h) (by kernel_rfl) rfl rfl (decide_eq_true hc23) (fun _ ho => ok_load_a (vs := [(.str p25), (.int .i64 p26)]) ho ia38 (.tmp rfl) rfl ⟨ldS_out hp25, ldI_out hp26, trivial⟩ (by simp))) rfl ?_
          refine x_go (f_op_g (dst := some 38) (t := 31) (ts := [0, 31]) rfl (by intro _ _ h; cases h) (by kernel_rfl) rfl rfl (decide_eq_true hc23) (fun _ _ ho => ok_move ho (.tmp rfl))) rfl ?_
          obtain ⟨p27, hp27, h⟩ := bindo h
          refine x_go (f_op_g (dst := some 39) (t := 31) (ts := [38, 31]) rfl (by intro _ _ h; cases h) (by kernel_rfl) rfl rfl (decide_eq_true hc23) (fun _ _ ho => ok_nilCheck_p ho (.tmp rfl) hp27)) rfl ?_
          refine x_go (f_op_g (dst := some 40) (t := 31) (ts := [39, 31]) rfl (by intro _ _ h; cases h) (by kernel_rfl) rfl rfl (decide_eq_true hc23) (fun _ _ ho => ok_fieldAddr_s ho fi30_0 (by decide) (.tmp rfl) rfl)) rfl ?_
          try dsimp only [HAct.put, List.set_cons_zero, List.set_cons_succ]
          obtain ⟨p28, hp28, h⟩ := bindo h
          refine x_go (r_op_g (dst := some 41) (t := 31) (ts := [40, 31]) rfl (by intro _ _ h; cases h) (by kernel_rfl) rfl rfl (decide_eq_true hc23) (fun _ ho => ok_load_s ho sc28 (.tmp rfl) rfl (ldSl_out hp28))) rfl ?_
          refine x_go (f_op_g (dst := some 42) (t := 31) (ts := [7, 31]) rfl (by intro _ _ h; cases h) (by kernel_rfl) rfl rfl (decide_eq_true hc23) (fun _ _ ho => ok_move ho (.tmp rfl))) rfl ?_
          obtain ⟨p29, hp29, h⟩ := bindo h
          refine x_go (r_op_g (dst := some 43) (t := 31) (ts := [41, 42, 31]) rfl (by intro _ _ h; cases h) (by kernel_rfl) rfl rfl (decide_eq_true hc23) (fun _ ho => ok_indexAddr (s := p28) ho tu28 sz38 (.tmp rfl) (.tmp rfl) hp29)) rfl ?_
          obtain ⟨p30, hp30, h⟩ := bindo h
          obtain ⟨p31, hp31, h⟩ := bindo h
          refine x_go (r_op_g (dst := some 44) (t := 31) (ts := [43, 31]) rfl (by intro _ _ h; cases h) (by kernel_rfl) rfl rfl (decide_eq_true hc23) (fun _ ho => ok_load_a (vs := [(.str p30), (.int .i64 p31)]) ho ia38 (.tmp rfl) rfl ⟨ldS_out hp30, ldI_out hp31, trivial⟩ (by simp))) rfl ?_
          try dsimp only [HAct.put, List.set_cons_zero, List.set_cons_succ]
          obtain ⟨p32, hp32, h⟩ := bindo h
          refine x_go (e_call_g (dst := some 45) (t := 31) (ts := [37, 44, 31]) rfl (by kernel_rfl) rfl rfl (decide_eq_true hc23) (.func _) (.cons (.tmp rfl) (.cons (.tmp rfl) Evs.nil)) (HInv.static rollcallref09_ahead.at_ rollcallref09_ahead.body (rollcallref09_ahead.snd  hp32))) rfl ?_
          refine x_go (f_op_g (dst := some 46) (t := 31) (ts := [45, 31]) rfl (by intro _ _ h; cases h) (by kernel_rfl) rfl rfl (decide_eq_true hc23) (fun _ _ ho => ok_not ho (.tmp rfl))) rfl ?_
          refine x_go (f_op_g (dst := some 47) (t := 27) (ts := [31, 46, 27]) rfl (by intro _ _ h; cases h) (by kernel_rfl) rfl rfl (decide_eq_false hc8) (fun _ _ ho => ok_pick_tt ho (.tmp rfl) (decide_eq_true hc23) (.tmp rfl))) rfl ?_
          refine x_go (f_op (dst := some 48) (ts := [27, 47]) rfl (by intro _ _ h; cases h) (by kernel_rfl) (fun _ _ ho => ok_pick_ff ho (.tmp rfl) (decide_eq_false hc8) (.tmp rfl))) rfl ?_
          refine x_rest rfl ?_
          refine hr_region_end ?_
          try dsimp only [HAct.put, List.set_cons_zero, List.set_cons_succ]
          try dsimp only [HAct.put, List.set_cons_zero, List.set_cons_succ]
          exact J2_snd ih hrec0 h
        · refine x_go (f_skip (dst := some 32) (t := 31) (ts := [5, 31]) rfl (by kernel_rfl) rfl rfl (decide_eq_false hc23)) rfl ?_
          try dsimp only [HAct.put, List.set_cons_zero, List.set_cons_succ]
          refine x_go (f_skip (dst := some 33) (t := 31) (ts := [5, 31]) rfl (by kernel_rfl) rfl rfl (decide_eq_false hc23)) rfl ?_
          refine x_go (f_skip (dst := some 34) (t := 31) (ts := [33, 31]) rfl (by kernel_rfl) rfl rfl (decide_eq_false hc23)) rfl ?_
          refine x_go (f_skip (dst := some 35) (t := 31) (ts := [34, 31]) rfl (by kernel_rfl) rfl rfl (decide_eq_false hc23)) rfl ?_
          refine x_go (r_skip (dst := some 36) (t := 31) (ts := [32, 35, 31]) rfl (by kernel_rfl) rfl rfl (decide_eq_false hc23)) rfl ?_
          try dsimp only [HAct.put, List.set_cons_zero, List.set_cons_succ]
          refine x_go (r_skip (dst := some 37) (t := 31) (ts := [36, 31]) rfl (by kernel_rfl) rfl rfl (decide_eq_false hc23)) rfl ?_
          refine x_go (f_skip (dst := some 38) (t := 31) (ts := [0, 31]) rfl (by kernel_rfl) rfl rfl (decide_eq_false hc23)) rfl ?_
          refine x_go (f_skip (dst := some 39) (t := 31) (ts := [38, 31]) rfl (by kernel_rfl) rfl rfl (decide_eq_false hc23)) rfl ?_
          refine x_go (f_skip (dst := some 40) (t := 31) (ts := [39, 31]) rfl (by kernel_rfl) rfl rfl (decide_eq_false hc23)) rfl ?_
          try dsimp only [HAct.put, List.set_cons_zero, List.set_cons_succ]
          refine x_go (r_skip (dst := some 41) (t := 31) (ts := [40, 31]) rfl (by kernel_rfl) rfl rfl (decide_eq_false hc23)) rfl ?_
          refine x_go (f_skip (dst := some 42) (t := 31) (ts := [7, 31]) rfl (by kernel_rfl) rfl rfl (decide_eq_false hc23)) rfl ?_
          refine x_go (r_skip (dst := some 43) (t := 31) (ts := [41, 42, 31]) rfl (by kernel_rfl) rfl rfl (decide_eq_false hc23)) rfl ?_
          refine x_go (r_skip (dst := some 44) (t := 31) (ts := [43, 31]) rfl (by kernel_rfl) rfl rfl (decide_eq_false hc23)) rfl ?_
          try dsimp only [HAct.put, List.set_cons_zero, List.set_cons_succ]
          refine x_go (e_skip (dst := some 45) (t := 31) (ts := [37, 44, 31]) rfl (by kernel_rfl) rfl rfl (decide_eq_false hc23)) rfl ?_
          refine x_go (f_skip (dst := some 46) (t := 31) (ts := [45, 31]) rfl (by kernel_rfl) rfl rfl (decide_eq_false hc23)) rfl ?_
          refine x_go (f_op_g (dst := some 47) (t := 27) (ts := [31, 46, 27]) rfl (by intro _ _ h; cases h) (by kernel_rfl) rfl rfl (decide_eq_false hc8) (fun _ _ ho => ok_pick_ff ho (.tmp rfl) (decide_eq_false hc23) (.bool _))) rfl ?_
          refine x_go (f_op (dst := some 48) (ts := [27, 47]) rfl (by intro _ _ h; cases h) (by kernel_rfl) (fun _ _ ho => ok_pick_ff ho (.tmp rfl) (decide_eq_false hc8) (.tmp rfl))) rfl ?_
          refine x_rest rfl ?_
          refine hr_region_end ?_
          try dsimp only [HAct.put, List.set_cons_zero, List.set_cons_succ]
          try dsimp only [HAct.put, List.set_cons_zero, List.set_cons_succ]
          exact J2_snd ih hrec0 h
    · refine q_cond_f e17 (.tmp rfl) (decide_eq_false hc3) ?_
      refine q_exit e19 rfl ?_
      refine q_seq e34 ?_
      refine q_seq e35 ?_
      refine q_region e36 rfl ?_
      refine q_op (dst := some 69) rfl (fun _ ho => ok_move ho (.tmp rfl)) ?_
      refine q_op (dst := some 70) rfl (fun _ ho => ok_ibin ho (.tmp rfl) (.int _ _) rfl) ?_
      refine hr_region_end ?_
      try dsimp only [HAct.put, List.set_cons_zero, List.set_cons_succ]
      rcases ifc h with ⟨hc33, h⟩ | ⟨hc33, h⟩
      · refine q_cond_t e37 (.tmp rfl) (decide_eq_true hc33) ?_
        refine q_seq e38 ?_
        refine q_region e39 rfl ?_
        refine q_op (dst := some 71) rfl (fun _ ho => ok_move ho (.tmp rfl)) ?_
        refine q_op (dst := some 4) rfl (fun _ ho => ok_assign ho (.tmp rfl)) ?_
        refine hr_region_end ?_
        try dsimp only [HAct.put, List.set_cons_zero, List.set_cons_succ]
        cases h
        exact q_ret e40 at_.at_ rfl (res1 rfl rfl) ⟨rfl, rfl⟩
      · refine q_cond_f e37 (.tmp rfl) (decide_eq_false hc33) ?_
        refine q_skipc e41 ?_
        refine q_region e42 rfl ?_
        refine q_op (dst := some 72) rfl (fun _ ho => ok_move ho (.tmp rfl)) ?_
        refine q_op (dst := some 73) rfl (fun _ ho => ok_move ho (.tmp rfl)) ?_
        obtain ⟨p34, hp34, h⟩ := bindo h
        refine q_op (dst := some 74) rfl (fun _ ho => ok_nilCheck_p ho (.tmp rfl) hp34) ?_
        refine q_op (dst := some 75) rfl (fun _ ho => ok_fieldAddr_s ho fi30_0 (by decide) (.tmp rfl) rfl) ?_
        try dsimp only [HAct.put, List.set_cons_zero, List.set_cons_succ]
        obtain ⟨p35, hp35, h⟩ := bindo h
        refine q_op (dst := some 76) rfl (fun _ ho => ok_load_s ho sc28 (.tmp rfl) rfl (ldSl_out hp35)) ?_
        refine q_op (dst := some 77) rfl (fun _ ho => ok_move ho (.tmp rfl)) ?_
        obtain ⟨p36, hp36, h⟩ := bindo h
        refine q_op (dst := some 78) rfl (fun _ ho => ok_indexAddr (s := p35) ho tu28 sz38 (.tmp rfl) (.tmp rfl) hp36) ?_
        obtain ⟨p37, hp37, h⟩ := bindo h
        obtain ⟨p38, hp38, h⟩ := bindo h
        refine q_op (dst := some 79) rfl (fun _ ho => ok_load_a (vs := [(.str p37), (.int .i64 p38)]) ho ia38 (.tmp rfl) rfl ⟨ldS_out hp37, ldI_out hp38, trivial⟩ (by simp)) ?_
        try dsimp only [HAct.put, List.set_cons_zero, List.set_cons_succ]
        obtain ⟨p39, hp39, h⟩ := leto h
        refine q_op (dst := some 80) rfl (fun _ ho => ok_buildSlice_s (xs := [(.tmp 79)]) el28 ho rfl rfl (by decide) (.cons (.tmp rfl) Evs.nil) rfl rfl hp39) ?_
        obtain ⟨p40, hp40, h⟩ := bindo h
        obtain ⟨p41, hp41, h⟩ := bindo h
        refine q_op (dst := some 81) rfl (fun _ ho => ok_append (s := y5) (s1 := (p39.1)) el28 ho rfl rfl ⟨_, tu28⟩ (.tmp rfl) (.tmp rfl) hp40 hp41) ?_
        refine q_op (dst := some 5) rfl (fun _ ho => ok_assign ho (.tmp rfl)) ?_
        refine hr_region_end ?_
        try dsimp only [HAct.put, List.set_cons_zero, List.set_cons_succ]
        refine hr_inBlock ?_
        try dsimp only [HAct.put, List.set_cons_zero, List.set_cons_succ]
        exact hrec0 h
def L0 (k : Nat) : Nat → (Option HA) → Int → Sl → HS → Option ((Sl) × HS)
  | 0, _, _, _, _ => none
  | n + 1, y0, y1, y5, S =>
    L1 k (L0 k n) k y0 y1 y5 (-1) 0 S
theorem L0_snd {k : Nat}  : ∀ {n : Nat} ⦃y0 : (Option HA)⦄ ⦃y1 : Int⦄ ⦃y5 : Sl⦄ ⦃S : HS⦄ ⦃p : (Sl) × HS⦄ ⦃g2 g3 g4 g6 g7 g8 g9 g10 g11 g12 g13 g14 g15 g16 g17 g18 g19 g20 g21 g22 g23 g24 g25 g26 g27 g28 g29 g30 g31 g32 g33 g34 g35 g36 g37 g38 g39 g40 g41 g42 g43 g44 g45 g46 g47 g48 g49 g50 g51 g52 g53 g54 g55 g56 g57 g58 g59 g60 g61 g62 g63 g64 g65 g66 g67 g68 g69 g70 g71 g72 g73 g74 g75 g76 g77 g78 g79 g80 g81 : HV⦄, L0 k n y0 y1 y5 S = some p → HRun Try.prog base W0 β0 12 none [.inLoop c6, .inBlock 0] ⟨[(.ptr y0), (.int .i64 y1), g2, g3, g4, (Sl.hv y5), g6, g7, g8, g9, g10, g11, g12, g13, g14, g15, g16, g17, g18, g19, g20, g21, g22, g23, g24, g25, g26, g27, g28, g29, g30, g31, g32, g33, g34, g35, g36, g37, g38, g39, g40, g41, g42, g43, g44, g45, g46, g47, g48, g49, g50, g51, g52, g53, g54, g55, g56, g57, g58, g59, g60, g61, g62, g63, g64, g65, g66, g67, g68, g69, g70, g71, g72, g73, g74, g75, g76, g77, g78, g79, g80, g81], []⟩ S (fun v S1 => v = (Sl.hv p.1) ∧ S1 = p.2) := by
  intro n
  induction n with
  | zero => intro _ _ _ _ _ _ _ _ _ _ _ _ _ _ _ _ _ _ _ _ _ _ _ _ _ _ _ _ _ _ _ _ _ _ _ _ _ _ _ _ _ _ _ _ _ _ _ _ _ _ _ _ _ _ _ _ _ _ _ _ _ _ _ _ _ _ _ _ _ _ _ _ _ _ _ _ _ _ _ _ _ _ _ _ h; cases h
  | succ n ih =>
    intro y0 y1 y5 S p g2 g3 g4 g6 g7 g8 g9 g10 g11 g12 g13 g14 g15 g16 g17 g18 g19 g20 g21 g22 g23 g24 g25 g26 g27 g28 g29 g30 g31 g32 g33 g34 g35 g36 g37 g38 g39 g40 g41 g42 g43 g44 g45 g46 g47 g48 g49 g50 g51 g52 g53 g54 g55 g56 g57 g58 g59 g60 g61 g62 g63 g64 g65 g66 g67 g68 g69 g70 g71 g72 g73 g74 g75 g76 g77 g78 g79 g80 g81 h
    simp only [L0] at h
    refine hr_inLoop ?_
    refine q_block e6 ?_
    refine q_seq e7 ?_
    refine q_region e8 rfl ?_
    refine q_op (dst := some 6) rfl (fun _ ho => ok_assign ho (.int _ _)) ?_
    refine hr_region_end ?_
    try dsimp only [HAct.put, List.set_cons_zero, List.set_cons_succ]
    refine q_seq e9 ?_
    refine q_seq e10 ?_
    refine q_region e11 rfl ?_
    refine q_op (dst := some 7) rfl (fun _ ho => ok_assign ho (.int _ _)) ?_
    refine hr_region_end ?_
    try dsimp only [HAct.put, List.set_cons_zero, List.set_cons_succ]
    refine q_block e12 ?_
    refine q_loop e13 ?_
    try dsimp only [HAct.put, List.set_cons_zero, List.set_cons_succ]
    exact L1_snd ih h
def f (k : Nat) (x0 : (Option HA)) (x1 : Int) (S : HS) : Option ((Sl) × HS) :=
  L0 k k x0 x1 Sl.nil S
theorem snd {k : Nat} {x0 : (Option HA)} {x1 : Int} {S : HS}  {p : (Sl) × HS} (h : f k x0 x1 S = some p) : HCall Try.prog base W0 β0 12 [(.ptr x0), (.int .i64 x1)] S (fun v S1 => v = (Sl.hv p.1) ∧ S1 = p.2) := by
  unfold f at h
  refine HCall.of_run at_.at_ body ?_
  show HRun Try.prog base W0 β0 12 none [.code c0] ⟨[(.ptr x0), (.int .i64 x1), .tup [], .tup [], .tup [], .tup [], .tup [], .tup [], .tup [], .tup [], .tup [], .tup [], .tup [], .tup [], .tup [], .tup [], .tup [], .tup [], .tup [], .tup [], .tup [], .tup [], .tup [], .tup [], .tup [], .tup [], .tup [], .tup [], .tup [], .tup [], .tup [], .tup [], .tup [], .tup [], .tup [], .tup [], .tup [], .tup [], .tup [], .tup [], .tup [], .tup [], .tup [], .tup [], .tup [], .tup [], .tup [], .tup [], .tup [], .tup [], .tup [], .tup [], .tup [], .tup [], .tup [], .tup [], .tup [], .tup [], .tup [], .tup [], .tup [], .tup [], .tup [], .tup [], .tup [], .tup [], .tup [], .tup [], .tup [], .tup [], .tup [], .tup [], .tup [], .tup [], .tup [], .tup [], .tup [], .tup [], .tup [], .tup [], .tup [], .tup []], []⟩ S _
  refine q_seq e0 ?_
  refine q_region e1 rfl ?_
  refine q_op (dst := some 4) rfl (fun _ ho => ok_assign ho (.const fun _ => .slNil none)) ?_
  refine hr_region_end ?_
  try dsimp only [HAct.put, List.set_cons_zero, List.set_cons_succ]
  refine q_seq e2 ?_
  refine q_region e3 rfl ?_
  refine q_op (dst := some 5) rfl (fun _ ho => ok_assign ho (.const fun _ => .slNil none)) ?_
  refine hr_region_end ?_
  try dsimp only [HAct.put, List.set_cons_zero, List.set_cons_succ]
  refine q_block e4 ?_
  refine q_loop e5 ?_
  try dsimp only [HAct.put, List.set_cons_zero, List.set_cons_succ]
  exact L0_snd  h
end
end rollcallref09_Table_Due
namespace rollcallref09_Table_Set
abbrev id : Nat := 14
theorem at_ : FnAt Try.prog 14 Try.f14 := ⟨Try.func14, by kernel_rfl⟩
noncomputable def c0 : Code := (Try.f14.body).getD .skip
noncomputable def c1 : Code := match c0 with | .seq x _ => x | _ => .skip
noncomputable def c2 : Code := match c0 with | .seq _ x => x | _ => .skip
theorem e0 : c0 = .seq c1 c2 := by kernel_rfl
noncomputable def r1 : Array Oper := match c1 with | .region _ x _ => x | _ => #[]
theorem e1 : c1 = .region 0 r1 false := by kernel_rfl
noncomputable def r2 : Array Oper := match c2 with | .region _ x _ => x | _ => #[]
theorem e2 : c2 = .region 1 r2 false := by kernel_rfl
theorem body : Try.f14.body = some c0 := by kernel_rfl
section
variable {base : Nat} {W0 : World} {β0 : Bt}
def f (k : Nat) (x0 : (Option HA)) (x1 : (List UInt8)) (x2 : Int) (S : HS) : Option ((Unit) × HS) :=
  (Option.bind (rollcallref09_Table_Stop.f k x0 x1 S) fun p1 =>
  (letv (HS.lit p1.2 [] 2) fun p2 =>
  (Option.bind (x0) fun p3 =>
  (Option.bind (HS.ldSl (p2.2) (HA.fld p3 0)) fun p4 =>
  (Option.bind (HS.rows (p2.2) p4 2) fun p5 =>
  (Option.bind (HS.app (p2.2) (p2.1) p5 2) fun p6 =>
  (letv (HS.lit (p6.2) [[(.str x1), (.int .i64 x2)]] 2) fun p7 =>
  (Option.bind (HS.rows (p7.2) (p7.1) 2) fun p8 =>
  (Option.bind (HS.app (p7.2) (p6.1) p8 2) fun p9 =>
  (Option.bind (x0) fun p10 =>
  (Option.bind (HS.sets (p9.2) (HA.fld p10 0) [(Sl.hv (p9.1))]) fun p11 =>
  some ((), p11))))))))))))
theorem snd {k : Nat} {x0 : (Option HA)} {x1 : (List UInt8)} {x2 : Int} {S : HS}  {p : (Unit) × HS} (h : f k x0 x1 x2 S = some p) : HCall Try.prog base W0 β0 14 [(.ptr x0), (.str x1), (.int .i64 x2)] S (fun v S1 => v = (.tup []) ∧ S1 = p.2) := by
  unfold f at h
  refine HCall.of_run at_.at_ body ?_
  show HRun Try.prog base W0 β0 14 none [.code c0] ⟨[(.ptr x0), (.str x1), (.int .i64 x2), .tup [], .tup [], .tup [], .tup [], .tup [], .tup [], .tup [], .tup [], .tup [], .tup [], .tup [], .tup [], .tup [], .tup [], .tup [], .tup [], .tup [], .tup [], .tup [], .tup []], []⟩ S _
  refine q_seq e0 ?_
  refine q_region e1 rfl ?_
  refine q_op (dst := some 6) rfl (fun _ ho => ok_move ho (.tmp rfl)) ?_
  refine q_op (dst := some 7) rfl (fun _ ho => ok_move ho (.tmp rfl)) ?_
  obtain ⟨p1, hp1, h⟩ := bindo h
  refine q_call (dst := some 8) rfl (.func _) (.cons (.tmp rfl) (.cons (.tmp rfl) Evs.nil)) (HInv.static rollcallref09_Table_Stop.at_ rollcallref09_Table_Stop.body (rollcallref09_Table_Stop.snd  hp1)) ?_
  rintro _ _ ⟨rfl, rfl⟩
  refine hr_region_end ?_
  try dsimp only [HAct.put, List.set_cons_zero, List.set_cons_succ]
  refine q_region e2 rfl ?_
  refine q_op (dst := some 9) rfl (fun _ ho => ok_move ho (.tmp rfl)) ?_
  obtain ⟨p2, hp2, h⟩ := leto h
  refine q_op (dst := some 10) rfl (fun _ ho => ok_buildSlice_s (xs := []) el28 ho rfl rfl (by decide) Evs.nil rfl rfl hp2) ?_
  refine q_op (dst := some 11) rfl (fun _ ho => ok_move ho (.tmp rfl)) ?_
  obtain ⟨p3, hp3, h⟩ := bindo h
  refine q_op (dst := some 12) rfl (fun _ ho => ok_nilCheck_p ho (.tmp rfl) hp3) ?_
  try dsimp only [HAct.put, List.set_cons_zero, List.set_cons_succ]
  refine q_op (dst := some 13) rfl (fun _ ho => ok_fieldAddr_s ho fi30_0 (by decide) (.tmp rfl) rfl) ?_
  obtain ⟨p4, hp4, h⟩ := bindo h
  refine q_op (dst := some 14) rfl (fun _ ho => ok_load_s ho sc28 (.tmp rfl) rfl (ldSl_out hp4)) ?_
  obtain ⟨p5, hp5, h⟩ := bindo h
  obtain ⟨p6, hp6, h⟩ := bindo h
  refine q_op (dst := some 15) rfl (fun _ ho => ok_append (s := (p2.1)) (s1 := p4) el28 ho rfl rfl ⟨_, tu28⟩ (.tmp rfl) (.tmp rfl) hp5 hp6) ?_
  refine q_op (dst := some 16) rfl (fun _ ho => ok_move ho (.tmp rfl)) ?_
  try dsimp only [HAct.put, List.set_cons_zero, List.set_cons_succ]
  refine q_op (dst := some 17) rfl (fun _ ho => ok_move ho (.tmp rfl)) ?_
  refine q_op (dst := some 18) rfl (fun _ ho => ok_build (is := [0, 1]) (xs := [(.tmp 16), (.tmp 17)]) (r := [(.str x1), (.int .i64 x2)]) st38 ho rfl rfl (.cons (.tmp rfl) (.cons (.tmp rfl) Evs.nil)) rfl) ?_
  obtain ⟨p7, hp7, h⟩ := leto h
  refine q_op (dst := some 19) rfl (fun _ ho => ok_buildSlice_s (xs := [(.tmp 18)]) el28 ho rfl rfl (by decide) (.cons (.tmp rfl) Evs.nil) rfl rfl hp7) ?_
  obtain ⟨p8, hp8, h⟩ := bindo h
  obtain ⟨p9, hp9, h⟩ := bindo h
  refine q_op (dst := some 20) rfl (fun _ ho => ok_append (s := (p6.1)) (s1 := (p7.1)) el28 ho rfl rfl ⟨_, tu28⟩ (.tmp rfl) (.tmp rfl) hp8 hp9) ?_
  try dsimp only [HAct.put, List.set_cons_zero, List.set_cons_succ]
  obtain ⟨p10, hp10, h⟩ := bindo h
  refine q_op (dst := some 21) rfl (fun _ ho => ok_nilCheck_p ho (.tmp rfl) hp10) ?_
  refine q_op (dst := some 22) rfl (fun _ ho => ok_fieldAddr_s ho fi30_0 (by decide) (.tmp rfl) rfl) ?_
  obtain ⟨p11, hp11, h⟩ := bindo h
  refine q_op (dst := none) rfl (fun _ ho => ok_store_s (v := (Sl.hv (p9.1))) ho sz28 (.tmp rfl) rfl (.tmp rfl) rfl hp11) ?_
  refine hr_region_end ?_
  try dsimp only [HAct.put, List.set_cons_zero, List.set_cons_succ]
  cases h
  exact q_end at_.at_ rfl (res0 rfl) ⟨rfl, rfl⟩
end
end rollcallref09_Table_Set
namespace rollcalllaw09_same
abbrev id : Nat := 18
theorem at_ : FnAt Try.prog 18 Try.f18 := ⟨Try.func18, by kernel_rfl⟩
noncomputable def c0 : Code := (Try.f18.body).getD .skip
noncomputable def c1 : Code := match c0 with | .seq x _ => x | _ => .skip
noncomputable def c2 : Code := match c0 with | .seq _ x => x | _ => .skip
noncomputable def c3 : Code := match c2 with | .seq x _ => x | _ => .skip
noncomputable def c4 : Code := match c2 with | .seq _ x => x | _ => .skip
noncomputable def c5 : Code := match c4 with | .seq x _ => x | _ => .skip
noncomputable def c6 : Code := match c4 with | .seq _ x => x | _ => .skip
noncomputable def c7 : Code := match c6 with | .seq x _ => x | _ => .skip
noncomputable def c8 : Code := match c6 with | .seq _ x => x | _ => .skip
noncomputable def c9 : Code := match c8 with | .seq x _ => x | _ => .skip
noncomputable def c10 : Code := match c9 with | .seq x _ => x | _ => .skip
noncomputable def c11 : Code := match c9 with | .seq _ x => x | _ => .skip
noncomputable def c12 : Code := match c11 with | .cond _ x _ => x | _ => .skip
noncomputable def c13 : Code := match c12 with | .seq x _ => x | _ => .skip
noncomputable def c14 : Code := match c12 with | .seq _ x => x | _ => .skip
noncomputable def c15 : Code := match c11 with | .cond _ _ x => x | _ => .skip
noncomputable def c16 : Code := match c8 with | .seq _ x => x | _ => .skip
noncomputable def c17 : Code := match c16 with | .seq x _ => x | _ => .skip
noncomputable def c18 : Code := match c17 with | .seq x _ => x | _ => .skip
noncomputable def c19 : Code := match c17 with | .seq _ x => x | _ => .skip
noncomputable def c20 : Code := match c19 with | .block _ x => x | _ => .skip
noncomputable def c21 : Code := match c20 with | .rangeFunc _ _ x _ => x | _ => .skip
noncomputable def c22 : Code := match c21 with | .seq x _ => x | _ => .skip
noncomputable def c23 : Code := match c21 with | .seq _ x => x | _ => .skip
noncomputable def c24 : Code := match c20 with | .rangeFunc _ _ _ x => x | _ => .skip
noncomputable def c25 : Code := match c24 with | .block _ x => x | _ => .skip
noncomputable def c26 : Code := match c25 with | .seq x _ => x | _ => .skip
noncomputable def c27 : Code := match c26 with | .seq x _ => x | _ => .skip
noncomputable def c28 : Code := match c26 with | .seq _ x => x | _ => .skip
noncomputable def c29 : Code := match c28 with | .cond _ x _ => x | _ => .skip
noncomputable def c30 : Code := match c29 with | .seq x _ => x | _ => .skip
noncomputable def c31 : Code := match c29 with | .seq _ x => x | _ => .skip
noncomputable def c32 : Code := match c28 with | .cond _ _ x => x | _ => .skip
noncomputable def c33 : Code := match c25 with | .seq _ x => x | _ => .skip
noncomputable def c34 : Code := match c33 with | .seq x _ => x | _ => .skip
noncomputable def c35 : Code := match c33 with | .seq _ x => x | _ => .skip
noncomputable def c36 : Code := match c16 with | .seq _ x => x | _ => .skip
noncomputable def c37 : Code := match c36 with | .seq x _ => x | _ => .skip
noncomputable def c38 : Code := match c36 with | .seq _ x => x | _ => .skip
theorem e0 : c0 = .seq c1 c2 := by kernel_rfl
noncomputable def r1 : Array Oper := match c1 with | .region _ x _ => x | _ => #[]
theorem e1 : c1 = .region 0 r1 false := by kernel_rfl
theorem e2 : c2 = .seq c3 c4 := by kernel_rfl
noncomputable def r3 : Array Oper := match c3 with | .region _ x _ => x | _ => #[]
theorem e3 : c3 = .region 1 r3 false := by kernel_rfl
theorem e4 : c4 = .seq c5 c6 := by kernel_rfl
noncomputable def r5 : Array Oper := match c5 with | .region _ x _ => x | _ => #[]
theorem e5 : c5 = .region 2 r5 false := by kernel_rfl
theorem e6 : c6 = .seq c7 c8 := by kernel_rfl
noncomputable def r7 : Array Oper := match c7 with | .region _ x _ => x | _ => #[]
theorem e7 : c7 = .region 3 r7 false := by kernel_rfl
theorem e8 : c8 = .seq c9 c16 := by kernel_rfl
theorem e9 : c9 = .seq c10 c11 := by kernel_rfl
noncomputable def r10 : Array Oper := match c10 with | .region _ x _ => x | _ => #[]
theorem e10 : c10 = .region 4 r10 false := by kernel_rfl
theorem e11 : c11 = .cond (.tmp 16) c12 c15 := by kernel_rfl
theorem e12 : c12 = .seq c13 c14 := by kernel_rfl
noncomputable def r13 : Array Oper := match c13 with | .region _ x _ => x | _ => #[]
theorem e13 : c13 = .region 5 r13 false := by kernel_rfl
theorem e14 : c14 = .ret := by kernel_rfl
theorem e15 : c15 = .skip := by kernel_rfl
theorem e16 : c16 = .seq c17 c36 := by kernel_rfl
theorem e17 : c17 = .seq c18 c19 := by kernel_rfl
noncomputable def r18 : Array Oper := match c18 with | .region _ x _ => x | _ => #[]
theorem e18 : c18 = .region 6 r18 false := by kernel_rfl
theorem e19 : c19 = .block 0 c20 := by kernel_rfl
theorem e20 : c20 = .rangeFunc (.tmp 17) #[18, 19] c21 c24 := by kernel_rfl
theorem e21 : c21 = .seq c22 c23 := by kernel_rfl
noncomputable def r22 : Array Oper := match c22 with | .region _ x _ => x | _ => #[]
theorem e22 : c22 = .region 7 r22 false := by kernel_rfl
noncomputable def r23 : Array Oper := match c23 with | .region _ x _ => x | _ => #[]
theorem e23 : c23 = .region 8 r23 false := by kernel_rfl
theorem e24 : c24 = .block 1 c25 := by kernel_rfl
theorem e25 : c25 = .seq c26 c33 := by kernel_rfl
theorem e26 : c26 = .seq c27 c28 := by kernel_rfl
noncomputable def r27 : Array Oper := match c27 with | .region _ x _ => x | _ => #[]
theorem e27 : c27 = .region 9 r27 false := by kernel_rfl
theorem e28 : c28 = .cond (.tmp 23) c29 c32 := by kernel_rfl
theorem e29 : c29 = .seq c30 c31 := by kernel_rfl
noncomputable def r30 : Array Oper := match c30 with | .region _ x _ => x | _ => #[]
theorem e30 : c30 = .region 10 r30 false := by kernel_rfl
theorem e31 : c31 = .ret := by kernel_rfl
theorem e32 : c32 = .skip := by kernel_rfl
theorem e33 : c33 = .seq c34 c35 := by kernel_rfl
noncomputable def r34 : Array Oper := match c34 with | .region _ x _ => x | _ => #[]
theorem e34 : c34 = .region 11 r34 false := by kernel_rfl
noncomputable def r35 : Array Oper := match c35 with | .region _ x _ => x | _ => #[]
theorem e35 : c35 = .region 12 r35 false := by kernel_rfl
theorem e36 : c36 = .seq c37 c38 := by kernel_rfl
noncomputable def r37 : Array Oper := match c37 with | .region _ x _ => x | _ => #[]
theorem e37 : c37 = .region 13 r37 false := by kernel_rfl
theorem e38 : c38 = .ret := by kernel_rfl
theorem body : Try.f18.body = some c0 := by kernel_rfl
section
variable {base : Nat} {W0 : World} {β0 : Bt}
def J2 (D : Dp) (H : Hd) (k : Nat) (l : Nat) (y7 : (Option HA)) (y8 : (Option HA)) (y42 : Bool) (S : HS) : Option (HV × HS) :=
  (Option.bind (y8) fun p37 =>
  (Option.bind (HS.sets S p37 [(.bool y42)]) fun p38 =>
  (Option.bind (y7) fun p39 =>
  (Option.bind (HS.ldI p38 .i64 p39) fun p40 =>
  (Option.bind (y7) fun p41 =>
  (Option.bind (HS.sets p38 p41 [(.int .i64 (w64 (p40 + 1)))]) fun p42 =>
  (HS.endr p42 l none)))))))
theorem J2_snd {D : Dp} {H : Hd} {k : Nat} {l : Nat} (hD : DSound Try.prog base W0 D) (hH : HSound Try.prog base W0 β0 H)  {y7 : (Option HA)} {y8 : (Option HA)} {y42 : Bool} {S : HS} {p : HV × HS} {g0 g1 g2 g3 g4 g5 g6 g9 g10 g11 g12 g13 g14 g15 g16 g17 g18 g19 g20 g21 g22 g23 g24 g25 g26 g27 g28 g29 g30 g31 g32 g33 g34 g35 g36 g37 g38 g39 g40 g41 g43 g44 g45 g46 g47 g48 g49 g50 g51 : HV} (h : J2 D H k l y7 y8 y42 S = some p) : HRun Try.prog base W0 β0 18 (some l) [.inRegion r34 [19], .code c35, .inBlock 1] ⟨[g0, g1, g2, g3, g4, g5, g6, (.ptr y7), (.ptr y8), g9, g10, g11, g12, g13, g14, g15, g16, g17, g18, g19, g20, g21, g22, g23, g24, g25, g26, g27, g28, g29, g30, g31, g32, g33, g34, g35, g36, g37, g38, g39, g40, g41, (.bool y42), g43, g44, g45, g46, g47, g48, g49, g50, g51], []⟩ S (fun v S1 => v = p.1 ∧ S1 = p.2) := by
  unfold J2 at h
  obtain ⟨p37, hp37, h⟩ := bindo h
  obtain ⟨p38, hp38, h⟩ := bindo h
  refine q_op (dst := none) rfl (fun _ ho => ok_store_s (v := (.bool y42)) ho sz4 (.tmp rfl) hp37 (.tmp rfl) rfl hp38) ?_
  refine hr_region_end ?_
  try dsimp only [HAct.put, List.set_cons_zero, List.set_cons_succ]
  refine q_region e35 rfl ?_
  obtain ⟨p39, hp39, h⟩ := bindo h
  obtain ⟨p40, hp40, h⟩ := bindo h
  refine q_op (dst := some 43) rfl (fun _ ho => ok_load_s ho sc3 (.tmp rfl) hp39 (ldI_out hp40)) ?_
  refine q_op (dst := some 44) rfl (fun _ ho => ok_ibin ho (.tmp rfl) (.int _ _) rfl) ?_
  obtain ⟨p41, hp41, h⟩ := bindo h
  obtain ⟨p42, hp42, h⟩ := bindo h
  refine q_op (dst := none) rfl (fun _ ho => ok_store_s (v := (.int .i64 (w64 (p40 + 1)))) ho sz3 (.tmp rfl) hp41 (.tmp rfl) rfl hp42) ?_
  refine hr_region_end ?_
  try dsimp only [HAct.put, List.set_cons_zero, List.set_cons_succ]
  refine hr_inBlock ?_
  exact q_round_end h ⟨rfl, rfl⟩
def J1 (D : Dp) (H : Hd) (k : Nat) (l : Nat) (y4 : (Option HA)) (y7 : (Option HA)) (y8 : (Option HA)) (y11 : Int) (y33 : Bool) (S : HS) : Option (HV × HS) :=
  (if y33 = true then
  (Option.bind (y4) fun p31 =>
  (Option.bind (HS.ldSl S p31) fun p32 =>
  (Option.bind (y7) fun p33 =>
  (Option.bind (HS.ldI S .i64 p33) fun p34 =>
  (Option.bind (HS.idx S p32 p34 2) fun p35 =>
  (Option.bind (HS.ldI S .i64 (HA.fld p35 1)) fun p36 =>
  J2 D H k l y7 y8 (decide (y11 = p36)) S)))))) else
  J2 D H k l y7 y8 false S)
theorem J1_snd {D : Dp} {H : Hd} {k : Nat} {l : Nat} (hD : DSound Try.prog base W0 D) (hH : HSound Try.prog base W0 β0 H)  {y4 : (Option HA)} {y7 : (Option HA)} {y8 : (Option HA)} {y11 : Int} {y33 : Bool} {S : HS} {p : HV × HS} {g0 g1 g2 g3 g5 g6 g9 g10 g12 g13 g14 g15 g16 g17 g18 g19 g20 g21 g22 g23 g24 g25 g26 g27 g28 g29 g30 g31 g32 g34 g35 g36 g37 g38 g39 g40 g41 g42 g43 g44 g45 g46 g47 g48 g49 g50 g51 : HV} (h : J1 D H k l y4 y7 y8 y11 y33 S = some p) : HRun Try.prog base W0 β0 18 (some l) [.inRegion r34 [10, 11, 12, 13, 14, 15, 16, 17, 18, 19], .code c35, .inBlock 1] ⟨[g0, g1, g2, g3, (.ptr y4), g5, g6, (.ptr y7), (.ptr y8), g9, g10, (.int .i64 y11), g12, g13, g14, g15, g16, g17, g18, g19, g20, g21, g22, g23, g24, g25, g26, g27, g28, g29, g30, g31, g32, (.bool y33), g34, g35, g36, g37, g38, g39, g40, g41, g42, g43, g44, g45, g46, g47, g48, g49, g50, g51], []⟩ S (fun v S1 => v = p.1 ∧ S1 = p.2) := by
  unfold J1 at h
  refine q_op (dst := some 34) rfl (fun _ ho => ok_move ho (.tmp rfl)) ?_
  rcases ifc h with ⟨hc30, h⟩ | ⟨hc30, h⟩
  · refine q_op_g (t := 34) (dst := some 35) rfl rfl rfl hc30 (fun _ ho => ok_move ho (.tmp rfl)) ?_
    try dsimp only [HAct.put, List.set_cons_zero, List.set_cons_succ]
    obtain ⟨p31, hp31, h⟩ := bindo h
    obtain ⟨p32, hp32, h⟩ := bindo h
    refine q_op_g (t := 34) (dst := some 36) rfl rfl rfl hc30 (fun _ ho => ok_load_s ho sc28 (.tmp rfl) hp31 (ldSl_out hp32)) ?_
    obtain ⟨p33, hp33, h⟩ := bindo h
    obtain ⟨p34, hp34, h⟩ := bindo h
    refine q_op_g (t := 34) (dst := some 37) rfl rfl rfl hc30 (fun _ ho => ok_load_s ho sc3 (.tmp rfl) hp33 (ldI_out hp34)) ?_
    obtain ⟨p35, hp35, h⟩ := bindo h
    refine q_op_g (t := 34) (dst := some 38) rfl rfl rfl hc30 (fun _ ho => ok_indexAddr (s := p32) ho tu28 sz38 (.tmp rfl) (.tmp rfl) hp35) ?_
    refine q_op_g (t := 34) (dst := some 39) rfl rfl rfl hc30 (fun _ ho => ok_fieldAddr_s ho fi38_1 (by decide) (.tmp rfl) rfl) ?_
    try dsimp only [HAct.put, List.set_cons_zero, List.set_cons_succ]
    obtain ⟨p36, hp36, h⟩ := bindo h
    refine q_op_g (t := 34) (dst := some 40) rfl rfl rfl hc30 (fun _ ho => ok_load_s ho sc3 (.tmp rfl) rfl (ldI_out hp36)) ?_
    refine q_op_g (t := 34) (dst := some 41) rfl rfl rfl hc30 (fun _ ho => ok_ibin ho (.tmp rfl) (.tmp rfl) rfl) ?_
    refine q_op (dst := some 42) rfl (fun _ ho => ok_pick_tt ho (.tmp rfl) hc30 (.tmp rfl)) ?_
    try dsimp only [HAct.put, List.set_cons_zero, List.set_cons_succ]
    exact J2_snd hD hH h
  · refine q_skip (dst := some 35) (t := 34) rfl rfl rfl (bfalse hc30) ?_
    try dsimp only [HAct.put, List.set_cons_zero, List.set_cons_succ]
    refine q_skip (dst := some 36) (t := 34) rfl rfl rfl (bfalse hc30) ?_
    refine q_skip (dst := some 37) (t := 34) rfl rfl rfl (bfalse hc30) ?_
    refine q_skip (dst := some 38) (t := 34) rfl rfl rfl (bfalse hc30) ?_
    refine q_skip (dst := some 39) (t := 34) rfl rfl rfl (bfalse hc30) ?_
    try dsimp only [HAct.put, List.set_cons_zero, List.set_cons_succ]
    refine q_skip (dst := some 40) (t := 34) rfl rfl rfl (bfalse hc30) ?_
    refine q_skip (dst := some 41) (t := 34) rfl rfl rfl (bfalse hc30) ?_
    refine q_op (dst := some 42) rfl (fun _ ho => ok_pick_ff ho (.tmp rfl) (bfalse hc30) (.bool _)) ?_
    try dsimp only [HAct.put, List.set_cons_zero, List.set_cons_succ]
    exact J2_snd hD hH h
def J0 (D : Dp) (H : Hd) (k : Nat) (l : Nat) (y4 : (Option HA)) (y6 : (Option HA)) (y7 : (Option HA)) (y8 : (Option HA)) (y18 : (List UInt8)) (y19 : Int) (S : HS) : Option (HV × HS) :=
  (Option.bind (HS.begin_ S l) fun p13 =>
  (Option.bind (y7) fun p14 =>
  (Option.bind (HS.ldI p13 .i64 p14) fun p15 =>
  (Option.bind (y4) fun p16 =>
  (Option.bind (HS.ldSl p13 p16) fun p17 =>
  (if p15 ≥ (Sl.len p17 : Int) then
  (Option.bind (y6) fun p19 =>
  (Option.bind (HS.sets p13 p19 [(.bool false)]) fun p20 =>
  (HS.endr p20 l (some .ret)))) else
  (Option.bind (y8) fun p21 =>
  (Option.bind (HS.ldB p13 p21) fun p22 =>
  (if p22 = true then
  (Option.bind (y4) fun p24 =>
  (Option.bind (HS.ldSl p13 p24) fun p25 =>
  (Option.bind (y7) fun p26 =>
  (Option.bind (HS.ldI p13 .i64 p26) fun p27 =>
  (Option.bind (HS.idx p13 p25 p27 2) fun p28 =>
  (Option.bind (HS.ldS p13 (HA.fld p28 0)) fun p29 =>
  J1 D H k l y4 y7 y8 y19 (decide (y18 = p29)) p13)))))) else
  J1 D H k l y4 y7 y8 y19 false p13)))))))))
theorem J0_snd {D : Dp} {H : Hd} {k : Nat} {l : Nat} (hD : DSound Try.prog base W0 D) (hH : HSound Try.prog base W0 β0 H)  {y4 : (Option HA)} {y6 : (Option HA)} {y7 : (Option HA)} {y8 : (Option HA)} {y18 : (List UInt8)} {y19 : Int} {S : HS} {p : HV × HS} {g0 g1 g2 g3 g5 g9 g10 g11 g12 g13 g14 g15 g16 g17 g20 g21 g22 g23 g24 g25 g26 g27 g28 g29 g30 g31 g32 g33 g34 g35 g36 g37 g38 g39 g40 g41 g42 g43 g44 g45 g46 g47 g48 g49 g50 g51 : HV} (h : J0 D H k l y4 y6 y7 y8 y18 y19 S = some p) : HRun Try.prog base W0 β0 18 (some l) [.code c21, .beginRound, .code c24] ⟨[g0, g1, g2, g3, (.ptr y4), g5, (.ptr y6), (.ptr y7), (.ptr y8), g9, g10, g11, g12, g13, g14, g15, g16, g17, (.str y18), (.int .i64 y19), g20, g21, g22, g23, g24, g25, g26, g27, g28, g29, g30, g31, g32, g33, g34, g35, g36, g37, g38, g39, g40, g41, g42, g43, g44, g45, g46, g47, g48, g49, g50, g51], []⟩ S (fun v S1 => v = p.1 ∧ S1 = p.2) := by
  unfold J0 at h
  refine q_seq e21 ?_
  refine q_region e22 rfl ?_
  refine q_op (dst := some 10) rfl (fun _ ho => ok_assign ho (.tmp rfl)) ?_
  refine hr_region_end ?_
  try dsimp only [HAct.put, List.set_cons_zero, List.set_cons_succ]
  refine q_region e23 rfl ?_
  refine q_op (dst := some 11) rfl (fun _ ho => ok_assign ho (.tmp rfl)) ?_
  refine hr_region_end ?_
  try dsimp only [HAct.put, List.set_cons_zero, List.set_cons_succ]
  obtain ⟨p13, hp13, h⟩ := bindo h
  refine q_begin hp13 ?_
  refine q_block e24 ?_
  refine q_seq e25 ?_
  refine q_seq e26 ?_
  refine q_region e27 rfl ?_
  obtain ⟨p14, hp14, h⟩ := bindo h
  obtain ⟨p15, hp15, h⟩ := bindo h
  refine q_op (dst := some 20) rfl (fun _ ho => ok_load_s ho sc3 (.tmp rfl) hp14 (ldI_out hp15)) ?_
  obtain ⟨p16, hp16, h⟩ := bindo h
  obtain ⟨p17, hp17, h⟩ := bindo h
  refine q_op (dst := some 21) rfl (fun _ ho => ok_load_s ho sc28 (.tmp rfl) hp16 (ldSl_out hp17)) ?_
  refine q_op (dst := some 22) rfl (fun _ ho => ok_len_sl (q := Sl.a p17) (n := Sl.len p17) (z := Sl.cap p17) ho rfl tu28 (.tmp rfl)) ?_
  refine q_op (dst := some 23) rfl (fun _ ho => ok_ibin ho (.tmp rfl) (.tmp rfl) rfl) ?_
  refine hr_region_end ?_
  try dsimp only [HAct.put, List.set_cons_zero, List.set_cons_succ]
  rcases ifc h with ⟨hc18, h⟩ | ⟨hc18, h⟩
  · refine q_cond_t e28 (.tmp rfl) (decide_eq_true hc18) ?_
    refine q_seq e29 ?_
    refine q_region e30 rfl ?_
    obtain ⟨p19, hp19, h⟩ := bindo h
    obtain ⟨p20, hp20, h⟩ := bindo h
    refine q_op (dst := none) rfl (fun _ ho => ok_store_s (v := (.bool false)) ho sz4 (.tmp rfl) hp19 (.bool _) rfl hp20) ?_
    refine hr_region_end ?_
    try dsimp only [HAct.put, List.set_cons_zero, List.set_cons_succ]
    exact q_round_ret e31 h ⟨rfl, rfl⟩
  · refine q_cond_f e28 (.tmp rfl) (decide_eq_false hc18) ?_
    refine q_skipc e32 ?_
    refine q_seq e33 ?_
    refine q_region e34 rfl ?_
    obtain ⟨p21, hp21, h⟩ := bindo h
    obtain ⟨p22, hp22, h⟩ := bindo h
    refine q_op (dst := some 24) rfl (fun _ ho => ok_load_s ho sc4 (.tmp rfl) hp21 (ldB_out hp22)) ?_
    refine q_op (dst := some 25) rfl (fun _ ho => ok_move ho (.tmp rfl)) ?_
    rcases ifc h with ⟨hc23, h⟩ | ⟨hc23, h⟩
    · refine q_op_g (t := 25) (dst := some 26) rfl rfl rfl hc23 (fun _ ho => ok_move ho (.tmp rfl)) ?_
      obtain ⟨p24, hp24, h⟩ := bindo h
      obtain ⟨p25, hp25, h⟩ := bindo h
      refine q_op_g (t := 25) (dst := some 27) rfl rfl rfl hc23 (fun _ ho => ok_load_s ho sc28 (.tmp rfl) hp24 (ldSl_out hp25)) ?_
      try dsimp only [HAct.put, List.set_cons_zero, List.set_cons_succ]
      obtain ⟨p26, hp26, h⟩ := bindo h
      obtain ⟨p27, hp27, h⟩ := bindo h
      refine q_op_g (t := 25) (dst := some 28) rfl rfl rfl hc23 (fun _ ho => ok_load_s ho sc3 (.tmp rfl) hp26 (ldI_out hp27)) ?_
      obtain ⟨p28, hp28, h⟩ := bindo h
      refine q_op_g (t := 25) (dst := some 29) rfl rfl rfl hc23 (fun _ ho => ok_indexAddr (s := p25) ho tu28 sz38 (.tmp rfl) (.tmp rfl) hp28) ?_
      refine q_op_g (t := 25) (dst := some 30) rfl rfl rfl hc23 (fun _ ho => ok_fieldAddr_s ho fi38_0 (by decide) (.tmp rfl) rfl) ?_
      obtain ⟨p29, hp29, h⟩ := bindo h
      refine q_op_g (t := 25) (dst := some 31) rfl rfl rfl hc23 (fun _ ho => ok_load_s ho sc9 (.tmp rfl) rfl (ldS_out hp29)) ?_
      try dsimp only [HAct.put, List.set_cons_zero, List.set_cons_succ]
      refine q_op_g (t := 25) (dst := some 32) rfl rfl rfl hc23 (fun _ ho => ok_sbin ho (.tmp rfl) (.tmp rfl) rfl) ?_
      refine q_op (dst := some 33) rfl (fun _ ho => ok_pick_tt ho (.tmp rfl) hc23 (.tmp rfl)) ?_
      try dsimp only [HAct.put, List.set_cons_zero, List.set_cons_succ]
      exact J1_snd hD hH h
    · refine q_skip (dst := some 26) (t := 25) rfl rfl rfl (bfalse hc23) ?_
      refine q_skip (dst := some 27) (t := 25) rfl rfl rfl (bfalse hc23) ?_
      try dsimp only [HAct.put, List.set_cons_zero, List.set_cons_succ]
      refine q_skip (dst := some 28) (t := 25) rfl rfl rfl (bfalse hc23) ?_
      refine q_skip (dst := some 29) (t := 25) rfl rfl rfl (bfalse hc23) ?_
      refine q_skip (dst := some 30) (t := 25) rfl rfl rfl (bfalse hc23) ?_
      refine q_skip (dst := some 31) (t := 25) rfl rfl rfl (bfalse hc23) ?_
      try dsimp only [HAct.put, List.set_cons_zero, List.set_cons_succ]
      refine q_skip (dst := some 32) (t := 25) rfl rfl rfl (bfalse hc23) ?_
      refine q_op (dst := some 33) rfl (fun _ ho => ok_pick_ff ho (.tmp rfl) (bfalse hc23) (.bool _)) ?_
      try dsimp only [HAct.put, List.set_cons_zero, List.set_cons_succ]
      exact J1_snd hD hH h
def J3 (D : Dp) (H : Hd) (k : Nat) (y6 : (Option HA)) (y51 : Bool) (ds : List Nat) (S : HS) : Option ((Bool) × HS) :=
  (Option.bind (y6) fun p55 =>
  (Option.bind (HS.sets S p55 [(.bool y51)]) fun p56 =>
  (Option.bind (HS.leave p56 ds) fun p57 =>
  (Option.bind (y6) fun p58 =>
  (Option.bind (HS.ldB p57 p58) fun p59 =>
  some (p59, p57))))))
theorem J3_snd {D : Dp} {H : Hd} {k : Nat} (hD : DSound Try.prog base W0 D) (hH : HSound Try.prog base W0 β0 H)  {y6 : (Option HA)} {y51 : Bool} {ds : List Nat} {S : HS} {p : (Bool) × HS} {g0 g1 g2 g3 g4 g5 g7 g8 g9 g10 g11 g12 g13 g14 g15 g16 g17 g18 g19 g20 g21 g22 g23 g24 g25 g26 g27 g28 g29 g30 g31 g32 g33 g34 g35 g36 g37 g38 g39 g40 g41 g42 g43 g44 g45 g46 g47 g48 g49 g50 : HV} (h : J3 D H k y6 y51 ds S = some p) : HRun Try.prog base W0 β0 18 none [.inRegion r37 [7], .code c38] ⟨[g0, g1, g2, g3, g4, g5, (.ptr y6), g7, g8, g9, g10, g11, g12, g13, g14, g15, g16, g17, g18, g19, g20, g21, g22, g23, g24, g25, g26, g27, g28, g29, g30, g31, g32, g33, g34, g35, g36, g37, g38, g39, g40, g41, g42, g43, g44, g45, g46, g47, g48, g49, g50, (.bool y51)], ds⟩ S (fun v S1 => v = (.bool p.1) ∧ S1 = p.2) := by
  unfold J3 at h
  obtain ⟨p55, hp55, h⟩ := bindo h
  obtain ⟨p56, hp56, h⟩ := bindo h
  refine q_op (dst := none) rfl (fun _ ho => ok_store_s (v := (.bool y51)) ho sz4 (.tmp rfl) hp55 (.tmp rfl) rfl hp56) ?_
  refine hr_region_end ?_
  try dsimp only [HAct.put, List.set_cons_zero, List.set_cons_succ]
  obtain ⟨p57, hp57, h⟩ := bindo h
  obtain ⟨p58, hp58, h⟩ := bindo h
  obtain ⟨p59, hp59, h⟩ := bindo h
  cases h
  exact q_ret e38 at_.at_ hp57 (resL1 rfl (.cell rfl hp58 sc4 (ldB_out hp59))) ⟨rfl, rfl⟩
def f (D : Dp) (H : Hd) (k : Nat) (x0 : (Option HA)) (x1 : Sl) (x2 : Int) (S : HS) : Option ((Bool) × HS) :=
  (letv (HS.new S (.cells 1 [[(Sl.hv x1)]] true)) fun p1 =>
  (letv (HS.new p1 (.cells 1 [[(.bool false)]] true)) fun p2 =>
  (letv (HS.new p2 (.cells 1 [[(.int .i64 0)]] true)) fun p3 =>
  (Option.bind (HS.sets p3 (HA.cell0 p2.next) [(.int .i64 0)]) fun p4 =>
  (letv (HS.new p4 (.cells 1 [[(.bool false)]] true)) fun p5 =>
  (Option.bind (HS.sets p5 (HA.cell0 p4.next) [(.bool true)]) fun p6 =>
  (Option.bind (timer_Table_string_Due.f k x0 x2 p6) fun p7 =>
  (Option.bind (HV.isNilFn p7.1) fun p8 =>
  (if (p8) = true then
  (Option.bind (HS.sets p7.2 (HA.cell0 p1.next) [(.bool false)]) fun p10 =>
  (Option.bind (HS.leave p10 []) fun p11 =>
  (Option.bind (HS.ldB p11 (HA.cell0 p1.next)) fun p12 =>
  some (p12, p11)))) else
  (Option.bind (D (Hd.set H (HS.next p7.2 + 1) fun vs T =>
  (Option.bind (HS.lp T (HS.next p7.2 + 1)) fun u46 =>
  (Option.bind (args2 vs) fun ar43 =>
  (Option.bind (dS ar43.1) fun p44 =>
  (Option.bind (dI .i64 ar43.2) fun p45 =>
  (J0 D H k (HS.next p7.2 + 1) (some (HA.cell0 S.next)) (some (HA.cell0 p1.next)) (some (HA.cell0 p2.next)) (some (HA.cell0 p4.next)) p44 p45 T)))))) p7.1 [.fn (.yield (HS.next p7.2 + 1)) [] []] (HS.new (HS.new p7.2 .defer) (.loop .ready none))) fun p47 =>
  (Option.bind (HS.finish p47.2 (HS.next p7.2 + 1)) fun p48 =>
  (Option.bind (pcode p48.1) fun n49 =>
  (if n49 = 0 then
  (Option.bind (HS.ldB p48.2 (HA.cell0 p4.next)) fun p51 =>
  (if p51 = true then
  (Option.bind (HS.ldI p48.2 .i64 (HA.cell0 p2.next)) fun p53 =>
  (Option.bind (HS.ldSl p48.2 (HA.cell0 S.next)) fun p54 =>
  J3 D H k (some (HA.cell0 p1.next)) (decide (p53 = (Sl.len p54 : Int))) (HS.next p7.2 :: []) p48.2)) else
  J3 D H k (some (HA.cell0 p1.next)) false (HS.next p7.2 :: []) p48.2)) else
  (if n49 = 1 then
  (Option.bind (HS.leave p48.2 (HS.next p7.2 :: [])) fun p61 =>
  (Option.bind (HS.ldB p61 (HA.cell0 p1.next)) fun p62 =>
  some (p62, p61))) else
  none))))))))))))))
theorem snd {D : Dp} {H : Hd} {k : Nat} {x0 : (Option HA)} {x1 : Sl} {x2 : Int} {S : HS} (hD : DSound Try.prog base W0 D) (hH : HSound Try.prog base W0 β0 H)  {p : (Bool) × HS} (h : f D H k x0 x1 x2 S = some p) : HCall Try.prog base W0 β0 18 [(.ptr x0), (Sl.hv x1), (.int .i64 x2)] S (fun v S1 => v = (.bool p.1) ∧ S1 = p.2) := by
  unfold f at h
  refine HCall.of_run at_.at_ body ?_
  show HRun Try.prog base W0 β0 18 none [.code c0] ⟨[(.ptr x0), (Sl.hv x1), (.int .i64 x2), .tup [], .tup [], .tup [], .tup [], .tup [], .tup [], .tup [], .tup [], .tup [], .tup [], .tup [], .tup [], .tup [], .tup [], .tup [], .tup [], .tup [], .tup [], .tup [], .tup [], .tup [], .tup [], .tup [], .tup [], .tup [], .tup [], .tup [], .tup [], .tup [], .tup [], .tup [], .tup [], .tup [], .tup [], .tup [], .tup [], .tup [], .tup [], .tup [], .tup [], .tup [], .tup [], .tup [], .tup [], .tup [], .tup [], .tup [], .tup [], .tup []], []⟩ S _
  refine q_seq e0 ?_
  refine q_region e1 rfl ?_
  obtain ⟨p1, hp1, h⟩ := leto h
  refine q_op (dst := some 4) rfl (fun _ ho => ok_box_e ho (.tmp rfl) (Nat.zero_lt_succ _) rfl hp1) ?_
  obtain ⟨p2, hp2, h⟩ := leto h
  refine q_op (dst := some 6) rfl (fun _ ho => ok_alloc_e ho zi4 zr4 (by decide) rfl hp2) ?_
  refine hr_region_end ?_
  try dsimp only [HAct.put, List.set_cons_zero, List.set_cons_succ]
  refine q_seq e2 ?_
  refine q_region e3 rfl ?_
  obtain ⟨p3, hp3, h⟩ := leto h
  refine q_op (dst := some 7) rfl (fun _ ho => ok_alloc_e ho zi3 zr3 (by decide) rfl hp3) ?_
  obtain ⟨p4, hp4, h⟩ := bindo h
  refine q_op (dst := none) rfl (fun _ ho => ok_store_s (v := (.int .i64 0)) ho sz3 (.tmp rfl) rfl (.int _ _) rfl hp4) ?_
  refine hr_region_end ?_
  try dsimp only [HAct.put, List.set_cons_zero, List.set_cons_succ]
  refine q_seq e4 ?_
  refine q_region e5 rfl ?_
  obtain ⟨p5, hp5, h⟩ := leto h
  refine q_op (dst := some 8) rfl (fun _ ho => ok_alloc_e ho zi4 zr4 (by decide) rfl hp5) ?_
  obtain ⟨p6, hp6, h⟩ := bindo h
  refine q_op (dst := none) rfl (fun _ ho => ok_store_s (v := (.bool true)) ho sz4 (.tmp rfl) rfl (.bool _) rfl hp6) ?_
  refine hr_region_end ?_
  try dsimp only [HAct.put, List.set_cons_zero, List.set_cons_succ]
  refine q_seq e6 ?_
  refine q_region e7 rfl ?_
  refine q_op (dst := some 12) rfl (fun _ ho => ok_move ho (.tmp rfl)) ?_
  refine q_op (dst := some 13) rfl (fun _ ho => ok_move ho (.tmp rfl)) ?_
  obtain ⟨p7, hp7, h⟩ := bindo h
  refine q_call (dst := some 14) rfl (.func _) (.cons (.tmp rfl) (.cons (.tmp rfl) Evs.nil)) (HInv.static timer_Table_string_Due.at_ timer_Table_string_Due.body (timer_Table_string_Due.snd  hp7)) ?_
  rintro _ _ ⟨rfl, rfl⟩
  refine q_op (dst := some 9) rfl (fun _ ho => ok_assign ho (.tmp rfl)) ?_
  refine hr_region_end ?_
  try dsimp only [HAct.put, List.set_cons_zero, List.set_cons_succ]
  refine q_seq e8 ?_
  refine q_seq e9 ?_
  refine q_region e10 rfl ?_
  refine q_op (dst := some 15) rfl (fun _ ho => ok_move ho (.tmp rfl)) ?_
  obtain ⟨p8, hp8, h⟩ := bindo h
  refine q_op (dst := some 16) rfl (fun _ ho => ok_nil_fn ho tu67 (.tmp rfl) hp8 (.inl ⟨rfl, rfl⟩)) ?_
  refine hr_region_end ?_
  try dsimp only [HAct.put, List.set_cons_zero, List.set_cons_succ]
  rcases ifc h with ⟨hc9, h⟩ | ⟨hc9, h⟩
  · refine q_cond_t e11 (.tmp rfl) hc9 ?_
    refine q_seq e12 ?_
    refine q_region e13 rfl ?_
    obtain ⟨p10, hp10, h⟩ := bindo h
    refine q_op (dst := none) rfl (fun _ ho => ok_store_s (v := (.bool false)) ho sz4 (.tmp rfl) rfl (.bool _) rfl hp10) ?_
    refine hr_region_end ?_
    try dsimp only [HAct.put, List.set_cons_zero, List.set_cons_succ]
    obtain ⟨p11, hp11, h⟩ := bindo h
    obtain ⟨p12, hp12, h⟩ := bindo h
    cases h
    exact q_ret e14 at_.at_ hp11 (resL1 rfl (.cell rfl rfl sc4 (ldB_out hp12))) ⟨rfl, rfl⟩
  · refine q_cond_f e11 (.tmp rfl) (bfalse hc9) ?_
    refine q_skipc e15 ?_
    refine q_seq e16 ?_
    refine q_seq e17 ?_
    refine q_region e18 rfl ?_
    refine q_op (dst := some 17) rfl (fun _ ho => ok_move ho (.tmp rfl)) ?_
    refine hr_region_end ?_
    try dsimp only [HAct.put, List.set_cons_zero, List.set_cons_succ]
    refine q_block e19 ?_
    obtain ⟨p47, hp47, h⟩ := bindo h
    obtain ⟨p48, hp48, h⟩ := bindo h
    obtain ⟨n49, hn49, h⟩ := bindo h
    refine q_range (D := D) (H := H) e20 (.tmp rfl) hD hH hp47 hp48 ?_ ?_
    · intro β1 hle hLA vs T u T' hr
      obtain ⟨u46, hu46, hr⟩ := bindo hr
      obtain ⟨ar43, har43, hr⟩ := bindo hr
      obtain ⟨p44, hp44, hr⟩ := bindo hr
      obtain ⟨p45, hp45, hr⟩ := bindo hr
      rw [args2_out har43]
      refine q_yield2 hLA hu46 rfl rfl ?_
      rw [dS_out hp44, dI_out hp45]
      simp only [HAct.params, List.set_cons_zero, List.set_cons_succ]
      exact J0_snd hD (hH.up hle) hr
    · rcases ifc h with ⟨hc50, h⟩ | ⟨hc50, h⟩
      · rw [pcode0 hn49 hc50]
        simp only [jumped_none, jumped_some]
        refine hr_inBlock ?_
        refine q_seq e36 ?_
        refine q_region e37 rfl ?_
        obtain ⟨p51, hp51, h⟩ := bindo h
        refine q_op (dst := some 45) rfl (fun _ ho => ok_load_s ho sc4 (.tmp rfl) rfl (ldB_out hp51)) ?_
        refine q_op (dst := some 46) rfl (fun _ ho => ok_move ho (.tmp rfl)) ?_
        rcases ifc h with ⟨hc52, h⟩ | ⟨hc52, h⟩
        · obtain ⟨p53, hp53, h⟩ := bindo h
          refine q_op_g (t := 46) (dst := some 47) rfl rfl rfl hc52 (fun _ ho => ok_load_s ho sc3 (.tmp rfl) rfl (ldI_out hp53)) ?_
          obtain ⟨p54, hp54, h⟩ := bindo h
          refine q_op_g (t := 46) (dst := some 48) rfl rfl rfl hc52 (fun _ ho => ok_load_s ho sc28 (.tmp rfl) rfl (ldSl_out hp54)) ?_
          try dsimp only [HAct.put, List.set_cons_zero, List.set_cons_succ]
          refine q_op_g (t := 46) (dst := some 49) rfl rfl rfl hc52 (fun _ ho => ok_len_sl (q := Sl.a p54) (n := Sl.len p54) (z := Sl.cap p54) ho rfl tu28 (.tmp rfl)) ?_
          refine q_op_g (t := 46) (dst := some 50) rfl rfl rfl hc52 (fun _ ho => ok_ibin ho (.tmp rfl) (.tmp rfl) rfl) ?_
          refine q_op (dst := some 51) rfl (fun _ ho => ok_pick_tt ho (.tmp rfl) hc52 (.tmp rfl)) ?_
          try dsimp only [HAct.put, List.set_cons_zero, List.set_cons_succ]
          exact J3_snd hD hH h
        · refine q_skip (dst := some 47) (t := 46) rfl rfl rfl (bfalse hc52) ?_
          refine q_skip (dst := some 48) (t := 46) rfl rfl rfl (bfalse hc52) ?_
          try dsimp only [HAct.put, List.set_cons_zero, List.set_cons_succ]
          refine q_skip (dst := some 49) (t := 46) rfl rfl rfl (bfalse hc52) ?_
          refine q_skip (dst := some 50) (t := 46) rfl rfl rfl (bfalse hc52) ?_
          refine q_op (dst := some 51) rfl (fun _ ho => ok_pick_ff ho (.tmp rfl) (bfalse hc52) (.bool _)) ?_
          try dsimp only [HAct.put, List.set_cons_zero, List.set_cons_succ]
          exact J3_snd hD hH h
      · rcases ifc h with ⟨hc60, h⟩ | ⟨hc60, h⟩
        · rw [pcode1 hn49 hc60]
          simp only [jumped_none, jumped_some]
          obtain ⟨p61, hp61, h⟩ := bindo h
          obtain ⟨p62, hp62, h⟩ := bindo h
          cases h
          exact q_ret rfl at_.at_ hp61 (resL1 rfl (.cell rfl rfl sc4 (ldB_out hp62))) ⟨rfl, rfl⟩
        · cases h
end
end rollcalllaw09_same
namespace timer_Table_string_Next
abbrev id : Nat := 19
theorem at_ : FnAt Try.prog 19 Try.f19 := ⟨Try.func19, by kernel_rfl⟩
noncomputable def c0 : Code := (Try.f19.body).getD .skip
noncomputable def c1 : Code := match c0 with | .seq x _ => x | _ => .skip
noncomputable def c2 : Code := match c0 with | .seq _ x => x | _ => .skip
noncomputable def c3 : Code := match c2 with | .seq x _ => x | _ => .skip
noncomputable def c4 : Code := match c3 with | .seq x _ => x | _ => .skip
noncomputable def c5 : Code := match c3 with | .seq _ x => x | _ => .skip
noncomputable def c6 : Code := match c5 with | .cond _ x _ => x | _ => .skip
noncomputable def c7 : Code := match c6 with | .seq x _ => x | _ => .skip
noncomputable def c8 : Code := match c6 with | .seq _ x => x | _ => .skip
noncomputable def c9 : Code := match c8 with | .seq x _ => x | _ => .skip
noncomputable def c10 : Code := match c8 with | .seq _ x => x | _ => .skip
noncomputable def c11 : Code := match c5 with | .cond _ _ x => x | _ => .skip
noncomputable def c12 : Code := match c2 with | .seq _ x => x | _ => .skip
noncomputable def c13 : Code := match c12 with | .seq x _ => x | _ => .skip
noncomputable def c14 : Code := match c12 with | .seq _ x => x | _ => .skip
theorem e0 : c0 = .seq c1 c2 := by kernel_rfl
noncomputable def r1 : Array Oper := match c1 with | .region _ x _ => x | _ => #[]
theorem e1 : c1 = .region 0 r1 false := by kernel_rfl
theorem e2 : c2 = .seq c3 c12 := by kernel_rfl
theorem e3 : c3 = .seq c4 c5 := by kernel_rfl
noncomputable def r4 : Array Oper := match c4 with | .region _ x _ => x | _ => #[]
theorem e4 : c4 = .region 1 r4 false := by kernel_rfl
theorem e5 : c5 = .cond (.tmp 8) c6 c11 := by kernel_rfl
theorem e6 : c6 = .seq c7 c8 := by kernel_rfl
noncomputable def r7 : Array Oper := match c7 with | .region _ x _ => x | _ => #[]
theorem e7 : c7 = .region 2 r7 false := by kernel_rfl
theorem e8 : c8 = .seq c9 c10 := by kernel_rfl
noncomputable def r9 : Array Oper := match c9 with | .region _ x _ => x | _ => #[]
theorem e9 : c9 = .region 3 r9 false := by kernel_rfl
theorem e10 : c10 = .ret := by kernel_rfl
theorem e11 : c11 = .skip := by kernel_rfl
theorem e12 : c12 = .seq c13 c14 := by kernel_rfl
noncomputable def r13 : Array Oper := match c13 with | .region _ x _ => x | _ => #[]
theorem e13 : c13 = .region 4 r13 true := by kernel_rfl
theorem e14 : c14 = .ret := by kernel_rfl
theorem body : Try.f19.body = some c0 := by kernel_rfl
section
variable {base : Nat} {W0 : World} {β0 : Bt}
def f (x0 : (Option HA)) (S : HS) : Option (((List UInt8) × Int × Bool) × HS) :=
  (Option.bind (timer_Table_string_Len.f x0 S) fun p1 =>
  (if p1.1 = 0 then
  some ((([] : List UInt8), 0, false), p1.2) else
  (Option.bind (x0) fun p3 =>
  (Option.bind (HS.ldSl p1.2 (HA.fld p3 0)) fun p4 =>
  (Option.bind (HS.idx p1.2 p4 0 2) fun p5 =>
  (Option.bind (HS.ldS p1.2 (HA.fld p5 0)) fun p6 =>
  (Option.bind (x0) fun p7 =>
  (Option.bind (HS.ldSl p1.2 (HA.fld p7 0)) fun p8 =>
  (Option.bind (HS.idx p1.2 p8 0 2) fun p9 =>
  (Option.bind (HS.ldI p1.2 .i64 (HA.fld p9 1)) fun p10 =>
  some ((p6, p10, true), p1.2)))))))))))
theorem snd {x0 : (Option HA)} {S : HS}  {p : ((List UInt8) × Int × Bool) × HS} (h : f x0 S = some p) : HCall Try.prog base W0 β0 19 [(.ptr x0)] S (fun v S1 => v = (.tup [(.str p.1.1), (.int .i64 p.1.2.1), (.bool p.1.2.2)]) ∧ S1 = p.2) := by
  unfold f at h
  refine HCall.of_run at_.at_ body ?_
  show HRun Try.prog base W0 β0 19 none [.code c0] ⟨[(.ptr x0), .tup [], .tup [], .tup [], .tup [], .tup [], .tup [], .tup [], .tup [], .tup [], .tup [], .tup [], .tup [], .tup [], .tup [], .tup [], .tup [], .tup [], .tup [], .tup [], .tup [], .tup [], .tup [], .tup []], []⟩ S _
  refine q_seq e0 ?_
  refine q_region e1 rfl ?_
  refine q_op (dst := some 2) rfl (fun _ ho => ok_assign ho (.str _)) ?_
  refine q_op (dst := some 3) rfl (fun _ ho => ok_assign ho (.int _ _)) ?_
  refine q_op (dst := some 4) rfl (fun _ ho => ok_assign ho (.bool _)) ?_
  refine hr_region_end ?_
  try dsimp only [HAct.put, List.set_cons_zero, List.set_cons_succ]
  refine q_seq e2 ?_
  refine q_seq e3 ?_
  refine q_region e4 rfl ?_
  refine q_op (dst := some 6) rfl (fun _ ho => ok_move ho (.tmp rfl)) ?_
  obtain ⟨p1, hp1, h⟩ := bindo h
  refine q_call (dst := some 7) rfl (.func _) (.cons (.tmp rfl) Evs.nil) (HInv.static timer_Table_string_Len.at_ timer_Table_string_Len.body (timer_Table_string_Len.snd  hp1)) ?_
  rintro _ _ ⟨rfl, rfl⟩
  refine q_op (dst := some 8) rfl (fun _ ho => ok_ibin ho (.tmp rfl) (.int _ _) rfl) ?_
  refine hr_region_end ?_
  try dsimp only [HAct.put, List.set_cons_zero, List.set_cons_succ]
  rcases ifc h with ⟨hc2, h⟩ | ⟨hc2, h⟩
  · refine q_cond_t e5 (.tmp rfl) (decide_eq_true hc2) ?_
    refine q_seq e6 ?_
    refine q_region e7 rfl ?_
    refine q_op (dst := some 5) rfl (fun _ ho => ok_assign ho (.str _)) ?_
    refine hr_region_end ?_
    try dsimp only [HAct.put, List.set_cons_zero, List.set_cons_succ]
    refine q_seq e8 ?_
    refine q_region e9 rfl ?_
    refine q_op (dst := some 9) rfl (fun _ ho => ok_move ho (.tmp rfl)) ?_
    refine q_op (dst := some 2) rfl (fun _ ho => ok_assign ho (.tmp rfl)) ?_
    refine q_op (dst := some 3) rfl (fun _ ho => ok_assign ho (.int _ _)) ?_
    refine q_op (dst := some 4) rfl (fun _ ho => ok_assign ho (.bool _)) ?_
    refine hr_region_end ?_
    try dsimp only [HAct.put, List.set_cons_zero, List.set_cons_succ]
    cases h
    exact q_ret e10 at_.at_ rfl (res3 rfl rfl rfl rfl) ⟨rfl, rfl⟩
  · refine q_cond_f e5 (.tmp rfl) (decide_eq_false hc2) ?_
    refine q_skipc e11 ?_
    refine q_seq e12 ?_
    refine x_start (cls := [0, 0, 0, 1, 1, 0, 1, 0, 0, 0, 1, 1, 0, 1, 0, 0, 0]) (rk := [0, 1, 2, 3, 4, 5, 6, 8, 9, 10, 11, 12, 13, 14, 7, 15, 16]) e13 (by kernel_rfl) ?_
    refine x_go (f_op (dst := some 10) (ts := [0]) rfl (by intro _ _ h; cases h) (by kernel_rfl) (fun _ _ ho => ok_move ho (.tmp rfl))) rfl ?_
    obtain ⟨p3, hp3, h⟩ := bindo h
    refine x_go (f_op (dst := some 11) (ts := [10]) rfl (by intro _ _ h; cases h) (by kernel_rfl) (fun _ _ ho => ok_nilCheck_p ho (.tmp rfl) hp3)) rfl ?_
    refine x_go (f_op (dst := some 12) (ts := [11]) rfl (by intro _ _ h; cases h) (by kernel_rfl) (fun _ _ ho => ok_fieldAddr_s ho fi60_0 (by decide) (.tmp rfl) rfl)) rfl ?_
    obtain ⟨p4, hp4, h⟩ := bindo h
    refine x_go (r_op (dst := some 13) (ts := [12]) rfl (by intro _ _ h; cases h) (by kernel_rfl) (fun _ ho => ok_load_s ho sc58 (.tmp rfl) rfl (ldSl_out hp4))) rfl ?_
    try dsimp only [HAct.put, List.set_cons_zero, List.set_cons_succ]
    obtain ⟨p5, hp5, h⟩ := bindo h
    refine x_go (r_op (dst := some 14) (ts := [13]) rfl (by intro _ _ h; cases h) (by kernel_rfl) (fun _ ho => ok_indexAddr (s := p4) ho tu58 sz63 (.tmp rfl) (.int _ _) hp5)) rfl ?_
    refine x_go (f_op (dst := some 15) (ts := [14]) rfl (by intro _ _ h; cases h) (by kernel_rfl) (fun _ _ ho => ok_fieldAddr_s ho fi63_0 (by decide) (.tmp rfl) rfl)) rfl ?_
    obtain ⟨p6, hp6, h⟩ := bindo h
    refine x_go (r_op (dst := some 16) (ts := [15]) rfl (by intro _ _ h; cases h) (by kernel_rfl) (fun _ ho => ok_load_s ho sc9 (.tmp rfl) rfl (ldS_out hp6))) rfl ?_
    refine x_go (f_op (dst := some 17) (ts := [0]) rfl (by intro _ _ h; cases h) (by kernel_rfl) (fun _ _ ho => ok_move ho (.tmp rfl))) rfl ?_
    try dsimp only [HAct.put, List.set_cons_zero, List.set_cons_succ]
    obtain ⟨p7, hp7, h⟩ := bindo h
    refine x_go (f_op (dst := some 18) (ts := [17]) rfl (by intro _ _ h; cases h) (by kernel_rfl) (fun _ _ ho => ok_nilCheck_p ho (.tmp rfl) hp7)) rfl ?_
    refine x_go (f_op (dst := some 19) (ts := [18]) rfl (by intro _ _ h; cases h) (by kernel_rfl) (fun _ _ ho => ok_fieldAddr_s ho fi60_0 (by decide) (.tmp rfl) rfl)) rfl ?_
    obtain ⟨p8, hp8, h⟩ := bindo h
    refine x_go (r_op (dst := some 20) (ts := [19]) rfl (by intro _ _ h; cases h) (by kernel_rfl) (fun _ ho => ok_load_s ho sc58 (.tmp rfl) rfl (ldSl_out hp8))) rfl ?_
    obtain ⟨p9, hp9, h⟩ := bindo h
    refine x_go (r_op (dst := some 21) (ts := [20]) rfl (by intro _ _ h; cases h) (by kernel_rfl) (fun _ ho => ok_indexAddr (s := p8) ho tu58 sz63 (.tmp rfl) (.int _ _) hp9)) rfl ?_
    try dsimp only [HAct.put, List.set_cons_zero, List.set_cons_succ]
    refine x_go (f_op (dst := some 22) (ts := [21]) rfl (by intro _ _ h; cases h) (by kernel_rfl) (fun _ _ ho => ok_fieldAddr_s ho fi63_1 (by decide) (.tmp rfl) rfl)) rfl ?_
    obtain ⟨p10, hp10, h⟩ := bindo h
    refine x_go (r_op (dst := some 23) (ts := [22]) rfl (by intro _ _ h; cases h) (by kernel_rfl) (fun _ ho => ok_load_s ho sc3 (.tmp rfl) rfl (ldI_out hp10))) rfl ?_
    refine x_go (f_op (dst := some 2) (ts := [16]) rfl (by intro _ _ h; cases h) (by kernel_rfl) (fun _ _ ho => ok_assign ho (.tmp rfl))) rfl ?_
    refine x_go (f_op (dst := some 3) (ts := [23]) rfl (by intro _ _ h; cases h) (by kernel_rfl) (fun _ _ ho => ok_assign ho (.tmp rfl))) rfl ?_
    try dsimp only [HAct.put, List.set_cons_zero, List.set_cons_succ]
    refine x_go (f_op (dst := some 4) (ts := []) rfl (by intro _ _ h; cases h) (by kernel_rfl) (fun _ _ ho => ok_assign ho (.bool _))) rfl ?_
    refine x_rest rfl ?_
    refine hr_region_end ?_
    try dsimp only [HAct.put, List.set_cons_zero, List.set_cons_succ]
    cases h
    exact q_ret e14 at_.at_ rfl (res3 rfl rfl rfl rfl) ⟨rfl, rfl⟩
end
end timer_Table_string_Next
end Go.Proofs.Ytlfdfkldolgkoaa.X
