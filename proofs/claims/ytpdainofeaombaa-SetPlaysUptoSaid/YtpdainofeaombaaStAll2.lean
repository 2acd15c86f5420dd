/- Functions of the program, each as a Lean function over the layer HL: a call answers what the Lean function answers, where it answers. -/
import Derived.Test.YtpdainofeaombaaProg
import Derived.Test.YtpdainofeaombaaStAll
namespace Go.Proofs.Ytpdainofeaombaa.X
open Go.Proofs.Ytpdainofeaombaa.HL
set_option linter.unusedVariables false
set_option linter.unusedSimpArgs false
set_option maxRecDepth 20000
set_option maxHeartbeats 4000000
namespace rollcalllaw10_told
abbrev id : Nat := 8
theorem at_ : FnAt Try.prog 8 Try.f8 := ⟨Try.func8, by kernel_rfl⟩
noncomputable def c0 : Code := (Try.f8.body).getD .skip
noncomputable def c1 : Code := match c0 with | .seq x _ => x | _ => .skip
noncomputable def c2 : Code := match c0 with | .seq _ x => x | _ => .skip
noncomputable def c3 : Code := match c2 with | .seq x _ => x | _ => .skip
noncomputable def c4 : Code := match c2 with | .seq _ x => x | _ => .skip
noncomputable def c5 : Code := match c4 with | .seq x _ => x | _ => .skip
noncomputable def c6 : Code := match c5 with | .seq x _ => x | _ => .skip
noncomputable def c7 : Code := match c5 with | .seq _ x => x | _ => .skip
noncomputable def c8 : Code := match c7 with | .cond _ x _ => x | _ => .skip
noncomputable def c9 : Code := match c8 with | .seq x _ => x | _ => .skip
noncomputable def c10 : Code := match c8 with | .seq _ x => x | _ => .skip
noncomputable def c11 : Code := match c7 with | .cond _ _ x => x | _ => .skip
noncomputable def c12 : Code := match c4 with | .seq _ x => x | _ => .skip
noncomputable def c13 : Code := match c12 with | .seq x _ => x | _ => .skip
noncomputable def c14 : Code := match c13 with | .seq x _ => x | _ => .skip
noncomputable def c15 : Code := match c13 with | .seq _ x => x | _ => .skip
noncomputable def c16 : Code := match c15 with | .block _ x => x | _ => .skip
noncomputable def c17 : Code := match c16 with | .rangeFunc _ _ x _ => x | _ => .skip
noncomputable def c18 : Code := match c16 with | .rangeFunc _ _ _ x => x | _ => .skip
noncomputable def c19 : Code := match c18 with | .block _ x => x | _ => .skip
noncomputable def c20 : Code := match c19 with | .seq x _ => x | _ => .skip
noncomputable def c21 : Code := match c20 with | .seq x _ => x | _ => .skip
noncomputable def c22 : Code := match c20 with | .seq _ x => x | _ => .skip
noncomputable def c23 : Code := match c22 with | .cond _ x _ => x | _ => .skip
noncomputable def c24 : Code := match c23 with | .seq x _ => x | _ => .skip
noncomputable def c25 : Code := match c23 with | .seq _ x => x | _ => .skip
noncomputable def c26 : Code := match c22 with | .cond _ _ x => x | _ => .skip
noncomputable def c27 : Code := match c19 with | .seq _ x => x | _ => .skip
noncomputable def c28 : Code := match c12 with | .seq _ x => x | _ => .skip
noncomputable def c29 : Code := match c28 with | .seq x _ => x | _ => .skip
noncomputable def c30 : Code := match c28 with | .seq _ x => x | _ => .skip
theorem e0 : c0 = .seq c1 c2 := by kernel_rfl
noncomputable def r1 : Array Oper := match c1 with | .region _ x _ => x | _ => #[]
theorem e1 : c1 = .region 0 r1 false := by kernel_rfl
theorem e2 : c2 = .seq c3 c4 := by kernel_rfl
noncomputable def r3 : Array Oper := match c3 with | .region _ x _ => x | _ => #[]
theorem e3 : c3 = .region 1 r3 false := by kernel_rfl
theorem e4 : c4 = .seq c5 c12 := by kernel_rfl
theorem e5 : c5 = .seq c6 c7 := by kernel_rfl
noncomputable def r6 : Array Oper := match c6 with | .region _ x _ => x | _ => #[]
theorem e6 : c6 = .region 2 r6 false := by kernel_rfl
theorem e7 : c7 = .cond (.tmp 9) c8 c11 := by kernel_rfl
theorem e8 : c8 = .seq c9 c10 := by kernel_rfl
noncomputable def r9 : Array Oper := match c9 with | .region _ x _ => x | _ => #[]
theorem e9 : c9 = .region 3 r9 false := by kernel_rfl
theorem e10 : c10 = .ret := by kernel_rfl
theorem e11 : c11 = .skip := by kernel_rfl
theorem e12 : c12 = .seq c13 c28 := by kernel_rfl
theorem e13 : c13 = .seq c14 c15 := by kernel_rfl
noncomputable def r14 : Array Oper := match c14 with | .region _ x _ => x | _ => #[]
theorem e14 : c14 = .region 4 r14 false := by kernel_rfl
theorem e15 : c15 = .block 0 c16 := by kernel_rfl
theorem e16 : c16 = .rangeFunc (.tmp 10) #[11] c17 c18 := by kernel_rfl
noncomputable def r17 : Array Oper := match c17 with | .region _ x _ => x | _ => #[]
theorem e17 : c17 = .region 5 r17 false := by kernel_rfl
theorem e18 : c18 = .block 1 c19 := by kernel_rfl
theorem e19 : c19 = .seq c20 c27 := by kernel_rfl
theorem e20 : c20 = .seq c21 c22 := by kernel_rfl
noncomputable def r21 : Array Oper := match c21 with | .region _ x _ => x | _ => #[]
theorem e21 : c21 = .region 6 r21 false := by kernel_rfl
theorem e22 : c22 = .cond (.tmp 15) c23 c26 := by kernel_rfl
theorem e23 : c23 = .seq c24 c25 := by kernel_rfl
noncomputable def r24 : Array Oper := match c24 with | .region _ x _ => x | _ => #[]
theorem e24 : c24 = .region 7 r24 false := by kernel_rfl
theorem e25 : c25 = .ret := by kernel_rfl
theorem e26 : c26 = .skip := by kernel_rfl
noncomputable def r27 : Array Oper := match c27 with | .region _ x _ => x | _ => #[]
theorem e27 : c27 = .region 8 r27 false := by kernel_rfl
theorem e28 : c28 = .seq c29 c30 := by kernel_rfl
noncomputable def r29 : Array Oper := match c29 with | .region _ x _ => x | _ => #[]
theorem e29 : c29 = .region 9 r29 false := by kernel_rfl
theorem e30 : c30 = .ret := by kernel_rfl
theorem body : Try.f8.body = some c0 := by kernel_rfl
section
variable {base : Nat} {W0 : World} {β0 : Bt}
def J0 (D : Dp) (H : Hd) (l : Nat) (y3 : (Option HA)) (y4 : (Option HA)) (y5 : (Option HA)) (y6 : (Option HA)) (y11 : Int) (S : HS) : Option (HV × HS) :=
  (Option.bind (HS.begin_ S l) fun p12 =>
  (Option.bind (y6) fun p13 =>
  (Option.bind (HS.ldSl p12 p13) fun p14 =>
  (Option.bind (y3) fun p15 =>
  (Option.bind (HS.ldI p12 .i64 p15) fun p16 =>
  (if (Sl.len p14 : Int) ≥ p16 then
  (Option.bind (y4) fun p18 =>
  (Option.bind (HS.sets p12 p18 [(Sl.hv Sl.nil)]) fun p19 =>
  (Option.bind (y5) fun p20 =>
  (Option.bind (HS.sets p19 p20 [(.bool false)]) fun p21 =>
  (HS.endr p21 l (some .ret)))))) else
  (Option.bind (y6) fun p22 =>
  (Option.bind (HS.ldSl p12 p22) fun p23 =>
  (letv (HS.lit p12 [[(.int .i64 y11)]] 1) fun p24 =>
  (Option.bind (HS.rows (p24.2) (p24.1) 1) fun p25 =>
  (Option.bind (HS.app (p24.2) p23 p25 1) fun p26 =>
  (Option.bind (y6) fun p27 =>
  (Option.bind (HS.sets (p26.2) p27 [(Sl.hv (p26.1))]) fun p28 =>
  (HS.endr p28 l none))))))))))))))
theorem J0_snd {D : Dp} {H : Hd} {l : Nat} (hD : DSound Try.prog base W0 D) (hH : HSound Try.prog base W0 β0 H)  {y3 : (Option HA)} {y4 : (Option HA)} {y5 : (Option HA)} {y6 : (Option HA)} {y11 : Int} {S : HS} {p : HV × HS} {g0 g1 g2 g7 g8 g9 g10 g12 g13 g14 g15 g16 g17 g18 g19 g20 : HV} (h : J0 D H l y3 y4 y5 y6 y11 S = some p) : HRun Try.prog base W0 β0 8 (some l) [.code c17, .beginRound, .code c18] ⟨[g0, g1, g2, (.ptr y3), (.ptr y4), (.ptr y5), (.ptr y6), g7, g8, g9, g10, (.int .i64 y11), g12, g13, g14, g15, g16, g17, g18, g19, g20], []⟩ S (fun v S1 => v = p.1 ∧ S1 = p.2) := by
  unfold J0 at h
  refine q_region e17 rfl ?_
  refine q_op (dst := some 7) rfl (fun _ ho => ok_assign ho (.tmp rfl)) ?_
  refine hr_region_end ?_
  try dsimp only [HAct.put, List.set_cons_zero, List.set_cons_succ]
  obtain ⟨p12, hp12, h⟩ := bindo h
  refine q_begin hp12 ?_
  refine q_block e18 ?_
  refine q_seq e19 ?_
  refine q_seq e20 ?_
  refine q_region e21 rfl ?_
  obtain ⟨p13, hp13, h⟩ := bindo h
  obtain ⟨p14, hp14, h⟩ := bindo h
  refine q_op (dst := some 12) rfl (fun _ ho => ok_load_s ho sc24 (.tmp rfl) hp13 (ldSl_out hp14)) ?_
  refine q_op (dst := some 13) rfl (fun _ ho => ok_len_sl (q := Sl.a p14) (n := Sl.len p14) (z := Sl.cap p14) ho rfl tu24 (.tmp rfl)) ?_
  obtain ⟨p15, hp15, h⟩ := bindo h
  obtain ⟨p16, hp16, h⟩ := bindo h
  refine q_op (dst := some 14) rfl (fun _ ho => ok_load_s ho sc3 (.tmp rfl) hp15 (ldI_out hp16)) ?_
  refine q_op (dst := some 15) rfl (fun _ ho => ok_ibin ho (.tmp rfl) (.tmp rfl) rfl) ?_
  refine hr_region_end ?_
  try dsimp only [HAct.put, List.set_cons_zero, List.set_cons_succ]
  rcases ifc h with ⟨hc17, h⟩ | ⟨hc17, h⟩
  · refine q_cond_t e22 (.tmp rfl) (decide_eq_true hc17) ?_
    refine q_seq e23 ?_
    refine q_region e24 rfl ?_
    obtain ⟨p18, hp18, h⟩ := bindo h
    obtain ⟨p19, hp19, h⟩ := bindo h
    refine q_op (dst := none) rfl (fun _ ho => ok_store_s (v := (Sl.hv Sl.nil)) ho sz24 (.tmp rfl) hp18 (.const fun _ => .slNil none) rfl hp19) ?_
    obtain ⟨p20, hp20, h⟩ := bindo h
    obtain ⟨p21, hp21, h⟩ := bindo h
    refine q_op (dst := none) rfl (fun _ ho => ok_store_s (v := (.bool false)) ho sz4 (.tmp rfl) hp20 (.bool _) rfl hp21) ?_
    refine hr_region_end ?_
    try dsimp only [HAct.put, List.set_cons_zero, List.set_cons_succ]
    exact q_round_ret e25 h ⟨rfl, rfl⟩
  · refine q_cond_f e22 (.tmp rfl) (decide_eq_false hc17) ?_
    refine q_skipc e26 ?_
    refine q_region e27 rfl ?_
    obtain ⟨p22, hp22, h⟩ := bindo h
    obtain ⟨p23, hp23, h⟩ := bindo h
    refine q_op (dst := some 16) rfl (fun _ ho => ok_load_s ho sc24 (.tmp rfl) hp22 (ldSl_out hp23)) ?_
    refine q_op (dst := some 17) rfl (fun _ ho => ok_move ho (.tmp rfl)) ?_
    obtain ⟨p24, hp24, h⟩ := leto h
    refine q_op (dst := some 18) rfl (fun _ ho => ok_buildSlice_s (xs := [(.tmp 17)]) el24 ho rfl rfl (by decide) (.cons (.tmp rfl) Evs.nil) rfl rfl hp24) ?_
    obtain ⟨p25, hp25, h⟩ := bindo h
    obtain ⟨p26, hp26, h⟩ := bindo h
    refine q_op (dst := some 19) rfl (fun _ ho => ok_append (s := p23) (s1 := (p24.1)) el24 ho rfl rfl ⟨_, tu24⟩ (.tmp rfl) (.tmp rfl) hp25 hp26) ?_
    try dsimp only [HAct.put, List.set_cons_zero, List.set_cons_succ]
    obtain ⟨p27, hp27, h⟩ := bindo h
    obtain ⟨p28, hp28, h⟩ := bindo h
    refine q_op (dst := none) rfl (fun _ ho => ok_store_s (v := (Sl.hv (p26.1))) ho sz24 (.tmp rfl) hp27 (.tmp rfl) rfl hp28) ?_
    refine hr_region_end ?_
    try dsimp only [HAct.put, List.set_cons_zero, List.set_cons_succ]
    refine hr_inBlock ?_
    exact q_round_end h ⟨rfl, rfl⟩
def f (D : Dp) (H : Hd) (x0 : HV) (x1 : Int) (S : HS) : Option ((Sl × Bool) × HS) :=
  (letv (HS.new S (.cells 1 [[(.int .i64 x1)]] true)) fun p1 =>
  (letv (HS.new p1 (.cells 1 [[(Sl.hv Sl.nil)]] true)) fun p2 =>
  (letv (HS.new p2 (.cells 1 [[(.bool false)]] true)) fun p3 =>
  (letv (HS.new p3 (.cells 1 [[(Sl.hv Sl.nil)]] true)) fun p4 =>
  (Option.bind (HV.isNilFn x0) fun p5 =>
  (if (p5) = true then
  (Option.bind (HS.sets p4 (HA.cell0 p1.next) [(Sl.hv Sl.nil)]) fun p7 =>
  (Option.bind (HS.sets p7 (HA.cell0 p2.next) [(.bool false)]) fun p8 =>
  (Option.bind (HS.leave p8 []) fun p9 =>
  (Option.bind (HS.ldSl p9 (HA.cell0 p1.next)) fun p10 =>
  (Option.bind (HS.ldB p9 (HA.cell0 p2.next)) fun p11 =>
  some ((p10, p11), p9)))))) else
  (Option.bind (D (Hd.set H (HS.next p4 + 1) fun vs T =>
  (Option.bind (HS.lp T (HS.next p4 + 1)) fun u31 =>
  (Option.bind (args1 vs) fun ar29 =>
  (Option.bind (dI .i64 ar29) fun p30 =>
  (J0 D H (HS.next p4 + 1) (some (HA.cell0 S.next)) (some (HA.cell0 p1.next)) (some (HA.cell0 p2.next)) (some (HA.cell0 p3.next)) p30 T))))) x0 [.fn (.yield (HS.next p4 + 1)) [] []] (HS.new (HS.new p4 .defer) (.loop .ready none))) fun p32 =>
  (Option.bind (HS.finish p32.2 (HS.next p4 + 1)) fun p33 =>
  (Option.bind (pcode p33.1) fun n34 =>
  (if n34 = 0 then
  (Option.bind (HS.ldSl p33.2 (HA.cell0 p3.next)) fun p36 =>
  (Option.bind (HS.sets p33.2 (HA.cell0 p1.next) [(Sl.hv p36)]) fun p37 =>
  (Option.bind (HS.sets p37 (HA.cell0 p2.next) [(.bool true)]) fun p38 =>
  (Option.bind (HS.leave p38 (HS.next p4 :: [])) fun p39 =>
  (Option.bind (HS.ldSl p39 (HA.cell0 p1.next)) fun p40 =>
  (Option.bind (HS.ldB p39 (HA.cell0 p2.next)) fun p41 =>
  some ((p40, p41), p39))))))) else
  (if n34 = 1 then
  (Option.bind (HS.leave p33.2 (HS.next p4 :: [])) fun p43 =>
  (Option.bind (HS.ldSl p43 (HA.cell0 p1.next)) fun p44 =>
  (Option.bind (HS.ldB p43 (HA.cell0 p2.next)) fun p45 =>
  some ((p44, p45), p43)))) else
  none)))))))))))
theorem snd {D : Dp} {H : Hd} {x0 : HV} {x1 : Int} {S : HS} (hD : DSound Try.prog base W0 D) (hH : HSound Try.prog base W0 β0 H)  {p : (Sl × Bool) × HS} (h : f D H x0 x1 S = some p) : HCall Try.prog base W0 β0 8 [x0, (.int .i64 x1)] S (fun v S1 => v = (.tup [(Sl.hv p.1.1), (.bool p.1.2)]) ∧ S1 = p.2) := by
  unfold f at h
  refine HCall.of_run at_.at_ body ?_
  show HRun Try.prog base W0 β0 8 none [.code c0] ⟨[x0, (.int .i64 x1), .tup [], .tup [], .tup [], .tup [], .tup [], .tup [], .tup [], .tup [], .tup [], .tup [], .tup [], .tup [], .tup [], .tup [], .tup [], .tup [], .tup [], .tup [], .tup []], []⟩ S _
  refine q_seq e0 ?_
  refine q_region e1 rfl ?_
  obtain ⟨p1, hp1, h⟩ := leto h
  refine q_op (dst := some 3) rfl (fun _ ho => ok_box_e ho (.tmp rfl) (Nat.zero_lt_succ _) rfl hp1) ?_
  obtain ⟨p2, hp2, h⟩ := leto h
  refine q_op (dst := some 4) rfl (fun _ ho => ok_alloc_e ho zi24 zr24 (by decide) rfl hp2) ?_
  obtain ⟨p3, hp3, h⟩ := leto h
  refine q_op (dst := some 5) rfl (fun _ ho => ok_alloc_e ho zi4 zr4 (by decide) rfl hp3) ?_
  refine hr_region_end ?_
  try dsimp only [HAct.put, List.set_cons_zero, List.set_cons_succ]
  refine q_seq e2 ?_
  refine q_region e3 rfl ?_
  obtain ⟨p4, hp4, h⟩ := leto h
  refine q_op (dst := some 6) rfl (fun _ ho => ok_alloc_e ho zi24 zr24 (by decide) rfl hp4) ?_
  refine hr_region_end ?_
  try dsimp only [HAct.put, List.set_cons_zero, List.set_cons_succ]
  refine q_seq e4 ?_
  refine q_seq e5 ?_
  refine q_region e6 rfl ?_
  refine q_op (dst := some 8) rfl (fun _ ho => ok_move ho (.tmp rfl)) ?_
  obtain ⟨p5, hp5, h⟩ := bindo h
  refine q_op (dst := some 9) rfl (fun _ ho => ok_nil_fn ho tu31 (.tmp rfl) hp5 (.inl ⟨rfl, rfl⟩)) ?_
  refine hr_region_end ?_
  try dsimp only [HAct.put, List.set_cons_zero, List.set_cons_succ]
  rcases ifc h with ⟨hc6, h⟩ | ⟨hc6, h⟩
  · refine q_cond_t e7 (.tmp rfl) hc6 ?_
    refine q_seq e8 ?_
    refine q_region e9 rfl ?_
    obtain ⟨p7, hp7, h⟩ := bindo h
    refine q_op (dst := none) rfl (fun _ ho => ok_store_s (v := (Sl.hv Sl.nil)) ho sz24 (.tmp rfl) rfl (.const fun _ => .slNil none) rfl hp7) ?_
    obtain ⟨p8, hp8, h⟩ := bindo h
    refine q_op (dst := none) rfl (fun _ ho => ok_store_s (v := (.bool false)) ho sz4 (.tmp rfl) rfl (.bool _) rfl hp8) ?_
    refine hr_region_end ?_
    try dsimp only [HAct.put, List.set_cons_zero, List.set_cons_succ]
    obtain ⟨p9, hp9, h⟩ := bindo h
    obtain ⟨p10, hp10, h⟩ := bindo h
    obtain ⟨p11, hp11, h⟩ := bindo h
    cases h
    exact q_ret e10 at_.at_ hp9 (resL (rs := [.cell 4 24, .cell 5 4]) rfl (.cons (.cell rfl rfl sc24 (ldSl_out hp10)) (.cons (.cell rfl rfl sc4 (ldB_out hp11)) .nil)) (by simp)) ⟨rfl, rfl⟩
  · refine q_cond_f e7 (.tmp rfl) (bfalse hc6) ?_
    refine q_skipc e11 ?_
    refine q_seq e12 ?_
    refine q_seq e13 ?_
    refine q_region e14 rfl ?_
    refine q_op (dst := some 10) rfl (fun _ ho => ok_move ho (.tmp rfl)) ?_
    refine hr_region_end ?_
    try dsimp only [HAct.put, List.set_cons_zero, List.set_cons_succ]
    refine q_block e15 ?_
    obtain ⟨p32, hp32, h⟩ := bindo h
    obtain ⟨p33, hp33, h⟩ := bindo h
    obtain ⟨n34, hn34, h⟩ := bindo h
    refine q_range (D := D) (H := H) e16 (.tmp rfl) hD hH hp32 hp33 ?_ ?_
    · intro β1 hle hLA vs T u T' hr
      obtain ⟨u31, hu31, hr⟩ := bindo hr
      obtain ⟨ar29, har29, hr⟩ := bindo hr
      obtain ⟨p30, hp30, hr⟩ := bindo hr
      rw [args1_out har29]
      refine q_yield2 hLA hu31 rfl rfl ?_
      rw [dI_out hp30]
      simp only [HAct.params, List.set_cons_zero, List.set_cons_succ]
      exact J0_snd hD (hH.up hle) hr
    · rcases ifc h with ⟨hc35, h⟩ | ⟨hc35, h⟩
      · rw [pcode0 hn34 hc35]
        simp only [jumped_none, jumped_some]
        refine hr_inBlock ?_
        refine q_seq e28 ?_
        refine q_region e29 rfl ?_
        obtain ⟨p36, hp36, h⟩ := bindo h
        refine q_op (dst := some 20) rfl (fun _ ho => ok_load_s ho sc24 (.tmp rfl) rfl (ldSl_out hp36)) ?_
        obtain ⟨p37, hp37, h⟩ := bindo h
        refine q_op (dst := none) rfl (fun _ ho => ok_store_s (v := (Sl.hv p36)) ho sz24 (.tmp rfl) rfl (.tmp rfl) rfl hp37) ?_
        obtain ⟨p38, hp38, h⟩ := bindo h
        refine q_op (dst := none) rfl (fun _ ho => ok_store_s (v := (.bool true)) ho sz4 (.tmp rfl) rfl (.bool _) rfl hp38) ?_
        refine hr_region_end ?_
        try dsimp only [HAct.put, List.set_cons_zero, List.set_cons_succ]
        obtain ⟨p39, hp39, h⟩ := bindo h
        obtain ⟨p40, hp40, h⟩ := bindo h
        obtain ⟨p41, hp41, h⟩ := bindo h
        cases h
        exact q_ret e30 at_.at_ hp39 (resL (rs := [.cell 4 24, .cell 5 4]) rfl (.cons (.cell rfl rfl sc24 (ldSl_out hp40)) (.cons (.cell rfl rfl sc4 (ldB_out hp41)) .nil)) (by simp)) ⟨rfl, rfl⟩
      · rcases ifc h with ⟨hc42, h⟩ | ⟨hc42, h⟩
        · rw [pcode1 hn34 hc42]
          simp only [jumped_none, jumped_some]
          obtain ⟨p43, hp43, h⟩ := bindo h
          obtain ⟨p44, hp44, h⟩ := bindo h
          obtain ⟨p45, hp45, h⟩ := bindo h
          cases h
          exact q_ret rfl at_.at_ hp43 (resL (rs := [.cell 4 24, .cell 5 4]) rfl (.cons (.cell rfl rfl sc24 (ldSl_out hp44)) (.cons (.cell rfl rfl sc4 (ldB_out hp45)) .nil)) (by simp)) ⟨rfl, rfl⟩
        · cases h
end
end rollcalllaw10_told
namespace rollcallref10_Same
abbrev id : Nat := 12
theorem at_ : FnAt Try.prog 12 Try.f12 := ⟨Try.func12, by kernel_rfl⟩
noncomputable def c0 : Code := (Try.f12.body).getD .skip
noncomputable def c1 : Code := match c0 with | .seq x _ => x | _ => .skip
noncomputable def c2 : Code := match c0 with | .seq _ x => x | _ => .skip
noncomputable def c3 : Code := match c2 with | .seq x _ => x | _ => .skip
noncomputable def c4 : Code := match c3 with | .seq x _ => x | _ => .skip
noncomputable def c5 : Code := match c3 with | .seq _ x => x | _ => .skip
noncomputable def c6 : Code := match c5 with | .cond _ x _ => x | _ => .skip
noncomputable def c7 : Code := match c6 with | .seq x _ => x | _ => .skip
noncomputable def c8 : Code := match c6 with | .seq _ x => x | _ => .skip
noncomputable def c9 : Code := match c5 with | .cond _ _ x => x | _ => .skip
noncomputable def c10 : Code := match c2 with | .seq _ x => x | _ => .skip
noncomputable def c11 : Code := match c10 with | .seq x _ => x | _ => .skip
noncomputable def c12 : Code := match c11 with | .seq x _ => x | _ => .skip
noncomputable def c13 : Code := match c11 with | .seq _ x => x | _ => .skip
noncomputable def c14 : Code := match c13 with | .block _ x => x | _ => .skip
noncomputable def c15 : Code := match c14 with | .loop x => x | _ => .skip
noncomputable def c16 : Code := match c15 with | .seq x _ => x | _ => .skip
noncomputable def c17 : Code := match c16 with | .seq x _ => x | _ => .skip
noncomputable def c18 : Code := match c16 with | .seq _ x => x | _ => .skip
noncomputable def c19 : Code := match c18 with | .cond _ x _ => x | _ => .skip
noncomputable def c20 : Code := match c18 with | .cond _ _ x => x | _ => .skip
noncomputable def c21 : Code := match c15 with | .seq _ x => x | _ => .skip
noncomputable def c22 : Code := match c21 with | .seq x _ => x | _ => .skip
noncomputable def c23 : Code := match c22 with | .block _ x => x | _ => .skip
noncomputable def c24 : Code := match c23 with | .seq x _ => x | _ => .skip
noncomputable def c25 : Code := match c23 with | .seq _ x => x | _ => .skip
noncomputable def c26 : Code := match c25 with | .cond _ x _ => x | _ => .skip
noncomputable def c27 : Code := match c26 with | .seq x _ => x | _ => .skip
noncomputable def c28 : Code := match c26 with | .seq _ x => x | _ => .skip
noncomputable def c29 : Code := match c25 with | .cond _ _ x => x | _ => .skip
noncomputable def c30 : Code := match c21 with | .seq _ x => x | _ => .skip
noncomputable def c31 : Code := match c10 with | .seq _ x => x | _ => .skip
noncomputable def c32 : Code := match c31 with | .seq x _ => x | _ => .skip
noncomputable def c33 : Code := match c31 with | .seq _ x => x | _ => .skip
theorem e0 : c0 = .seq c1 c2 := by kernel_rfl
noncomputable def r1 : Array Oper := match c1 with | .region _ x _ => x | _ => #[]
theorem e1 : c1 = .region 0 r1 false := by kernel_rfl
theorem e2 : c2 = .seq c3 c10 := by kernel_rfl
theorem e3 : c3 = .seq c4 c5 := by kernel_rfl
noncomputable def r4 : Array Oper := match c4 with | .region _ x _ => x | _ => #[]
theorem e4 : c4 = .region 1 r4 false := by kernel_rfl
theorem e5 : c5 = .cond (.tmp 10) c6 c9 := by kernel_rfl
theorem e6 : c6 = .seq c7 c8 := by kernel_rfl
noncomputable def r7 : Array Oper := match c7 with | .region _ x _ => x | _ => #[]
theorem e7 : c7 = .region 2 r7 false := by kernel_rfl
theorem e8 : c8 = .ret := by kernel_rfl
theorem e9 : c9 = .skip := by kernel_rfl
theorem e10 : c10 = .seq c11 c31 := by kernel_rfl
theorem e11 : c11 = .seq c12 c13 := by kernel_rfl
noncomputable def r12 : Array Oper := match c12 with | .region _ x _ => x | _ => #[]
theorem e12 : c12 = .region 3 r12 false := by kernel_rfl
theorem e13 : c13 = .block 0 c14 := by kernel_rfl
theorem e14 : c14 = .loop c15 := by kernel_rfl
theorem e15 : c15 = .seq c16 c21 := by kernel_rfl
theorem e16 : c16 = .seq c17 c18 := by kernel_rfl
noncomputable def r17 : Array Oper := match c17 with | .region _ x _ => x | _ => #[]
theorem e17 : c17 = .region 4 r17 false := by kernel_rfl
theorem e18 : c18 = .cond (.tmp 14) c19 c20 := by kernel_rfl
theorem e19 : c19 = .skip := by kernel_rfl
theorem e20 : c20 = .exit 0 := by kernel_rfl
theorem e21 : c21 = .seq c22 c30 := by kernel_rfl
theorem e22 : c22 = .block 1 c23 := by kernel_rfl
theorem e23 : c23 = .seq c24 c25 := by kernel_rfl
noncomputable def r24 : Array Oper := match c24 with | .region _ x _ => x | _ => #[]
theorem e24 : c24 = .region 6 r24 true := by kernel_rfl
theorem e25 : c25 = .cond (.tmp 25) c26 c29 := by kernel_rfl
theorem e26 : c26 = .seq c27 c28 := by kernel_rfl
noncomputable def r27 : Array Oper := match c27 with | .region _ x _ => x | _ => #[]
theorem e27 : c27 = .region 7 r27 false := by kernel_rfl
theorem e28 : c28 = .ret := by kernel_rfl
theorem e29 : c29 = .skip := by kernel_rfl
noncomputable def r30 : Array Oper := match c30 with | .region _ x _ => x | _ => #[]
theorem e30 : c30 = .region 5 r30 false := by kernel_rfl
theorem e31 : c31 = .seq c32 c33 := by kernel_rfl
noncomputable def r32 : Array Oper := match c32 with | .region _ x _ => x | _ => #[]
theorem e32 : c32 = .region 8 r32 false := by kernel_rfl
theorem e33 : c33 = .ret := by kernel_rfl
theorem body : Try.f12.body = some c0 := by kernel_rfl
section
variable {base : Nat} {W0 : World} {β0 : Bt}
def L0 (k : Nat) : Nat → Sl → Sl → Int → HS → Option ((Bool) × HS)
  | 0, _, _, _, _ => none
  | n + 1, y0, y1, y5, S =>
    (if y5 < (Sl.len y0 : Int) then
    (Option.bind (HS.idx S y0 y5 1) fun p3 =>
    (Option.bind (HS.ldI S .i64 p3) fun p4 =>
    (Option.bind (HS.idx S y1 y5 1) fun p5 =>
    (Option.bind (HS.ldI S .i64 p5) fun p6 =>
    (if (!decide (p4 = p6)) = true then
    some (false, S) else
    (L0 k n) y0 y1 (w64 (y5 + 1)) S))))) else
    some (true, S))
theorem L0_snd {k : Nat}  : ∀ {n : Nat} ⦃y0 : Sl⦄ ⦃y1 : Sl⦄ ⦃y5 : Int⦄ ⦃S : HS⦄ ⦃p : (Bool) × HS⦄ ⦃g2 g3 g4 g6 g7 g8 g9 g10 g11 g12 g13 g14 g15 g16 g17 g18 g19 g20 g21 g22 g23 g24 g25 : HV⦄, L0 k n y0 y1 y5 S = some p → HRun Try.prog base W0 β0 12 none [.inLoop c15, .inBlock 0, .code c31] ⟨[(Sl.hv y0), (Sl.hv y1), g2, g3, g4, (.int .i64 y5), g6, g7, g8, g9, g10, g11, g12, g13, g14, g15, g16, g17, g18, g19, g20, g21, g22, g23, g24, g25], []⟩ S (fun v S1 => v = (.bool p.1) ∧ S1 = p.2) := by
  intro n
  induction n with
  | zero => intro _ _ _ _ _ _ _ _ _ _ _ _ _ _ _ _ _ _ _ _ _ _ _ _ _ _ _ _ h; cases h
  | succ n ih =>
    intro y0 y1 y5 S p g2 g3 g4 g6 g7 g8 g9 g10 g11 g12 g13 g14 g15 g16 g17 g18 g19 g20 g21 g22 g23 g24 g25 h
    simp only [L0] at h
    refine hr_inLoop ?_
    refine q_seq e15 ?_
    refine q_seq e16 ?_
    refine q_region e17 rfl ?_
    refine q_op (dst := some 11) rfl (fun _ ho => ok_move ho (.tmp rfl)) ?_
    refine q_op (dst := some 12) rfl (fun _ ho => ok_move ho (.tmp rfl)) ?_
    refine q_op (dst := some 13) rfl (fun _ ho => ok_len_sl (q := Sl.a y0) (n := Sl.len y0) (z := Sl.cap y0) ho rfl tu24 (.tmp rfl)) ?_
    refine q_op (dst := some 14) rfl (fun _ ho => ok_ibin ho (.tmp rfl) (.tmp rfl) rfl) ?_
    refine hr_region_end ?_
    try dsimp only [HAct.put, List.set_cons_zero, List.set_cons_succ]
    rcases ifc h with ⟨hc2, h⟩ | ⟨hc2, h⟩
    · refine q_cond_t e18 (.tmp rfl) (decide_eq_true hc2) ?_
      refine q_skipc e19 ?_
      refine q_seq e21 ?_
      refine q_block e22 ?_
      refine q_seq e23 ?_
      refine x_start (cls := [0, 0, 1, 1, 0, 0, 1, 1, 0]) (rk := [0, 1, 2, 3, 4, 5, 6, 7, 8]) e24 (by kernel_rfl) ?_
      refine x_go (f_op (dst := some 17) (ts := [0]) rfl (by intro _ _ h; cases h) (by kernel_rfl) (fun _ _ ho => ok_move ho (.tmp rfl))) rfl ?_
      refine x_go (f_op (dst := some 18) (ts := [5]) rfl (by intro _ _ h; cases h) (by kernel_rfl) (fun _ _ ho => ok_move ho (.tmp rfl))) rfl ?_
      obtain ⟨p3, hp3, h⟩ := bindo h
      refine x_go (r_op (dst := some 19) (ts := [17, 18]) rfl (by intro _ _ h; cases h) (by kernel_rfl) (fun _ ho => ok_indexAddr (s := y0) ho tu24 sz3 (.tmp rfl) (.tmp rfl) hp3)) rfl ?_
      obtain ⟨p4, hp4, h⟩ := bindo h
      refine x_go (r_op (dst := some 20) (ts := [19]) rfl (by intro _ _ h; cases h) (by kernel_rfl) (fun _ ho => ok_load_s ho sc3 (.tmp rfl) rfl (ldI_out hp4))) rfl ?_
      try dsimp only [HAct.put, List.set_cons_zero, List.set_cons_succ]
      refine x_go (f_op (dst := some 21) (ts := [1]) rfl (by intro _ _ h; cases h) (by kernel_rfl) (fun _ _ ho => ok_move ho (.tmp rfl))) rfl ?_
      refine x_go (f_op (dst := some 22) (ts := [5]) rfl (by intro _ _ h; cases h) (by kernel_rfl) (fun _ _ ho => ok_move ho (.tmp rfl))) rfl ?_
      obtain ⟨p5, hp5, h⟩ := bindo h
      refine x_go (r_op (dst := some 23) (ts := [21, 22]) rfl (by intro _ _ h; cases h) (by kernel_rfl) (fun _ ho => ok_indexAddr (s := y1) ho tu24 sz3 (.tmp rfl) (.tmp rfl) hp5)) rfl ?_
      obtain ⟨p6, hp6, h⟩ := bindo h
      refine x_go (r_op (dst := some 24) (ts := [23]) rfl (by intro _ _ h; cases h) (by kernel_rfl) (fun _ ho => ok_load_s ho sc3 (.tmp rfl) rfl (ldI_out hp6))) rfl ?_
      try dsimp only [HAct.put, List.set_cons_zero, List.set_cons_succ]
      refine x_go (f_op (dst := some 25) (ts := [20, 24]) rfl (by intro _ _ h; cases h) (by kernel_rfl) (fun _ _ ho => ok_ibin ho (.tmp rfl) (.tmp rfl) rfl)) rfl ?_
      refine x_rest rfl ?_
      refine hr_region_end ?_
      try dsimp only [HAct.put, List.set_cons_zero, List.set_cons_succ]
      rcases ifc h with ⟨hc7, h⟩ | ⟨hc7, h⟩
      · refine q_cond_t e25 (.tmp rfl) hc7 ?_
        refine q_seq e26 ?_
        refine q_region e27 rfl ?_
        refine q_op (dst := some 4) rfl (fun _ ho => ok_assign ho (.bool _)) ?_
        refine hr_region_end ?_
        try dsimp only [HAct.put, List.set_cons_zero, List.set_cons_succ]
        cases h
        exact q_ret e28 at_.at_ rfl (res1 rfl rfl) ⟨rfl, rfl⟩
      · refine q_cond_f e25 (.tmp rfl) (bfalse hc7) ?_
        refine q_skipc e29 ?_
        refine hr_inBlock ?_
        refine q_region e30 rfl ?_
        refine q_op (dst := some 15) rfl (fun _ ho => ok_move ho (.tmp rfl)) ?_
        refine q_op (dst := some 16) rfl (fun _ ho => ok_ibin ho (.tmp rfl) (.int _ _) rfl) ?_
        refine q_op (dst := some 5) rfl (fun _ ho => ok_assign ho (.tmp rfl)) ?_
        refine hr_region_end ?_
        try dsimp only [HAct.put, List.set_cons_zero, List.set_cons_succ]
        try dsimp only [HAct.put, List.set_cons_zero, List.set_cons_succ]
        exact ih h
    · refine q_cond_f e18 (.tmp rfl) (decide_eq_false hc2) ?_
      refine q_exit e20 rfl ?_
      refine q_seq e31 ?_
      refine q_region e32 rfl ?_
      refine q_op (dst := some 4) rfl (fun _ ho => ok_assign ho (.bool _)) ?_
      refine hr_region_end ?_
      try dsimp only [HAct.put, List.set_cons_zero, List.set_cons_succ]
      cases h
      exact q_ret e33 at_.at_ rfl (res1 rfl rfl) ⟨rfl, rfl⟩
def f (k : Nat) (x0 : Sl) (x1 : Sl) (S : HS) : Option ((Bool) × HS) :=
  (if (!decide ((Sl.len x0 : Int) = (Sl.len x1 : Int))) = true then
  some (false, S) else
  L0 k k x0 x1 0 S)
theorem snd {k : Nat} {x0 : Sl} {x1 : Sl} {S : HS}  {p : (Bool) × HS} (h : f k x0 x1 S = some p) : HCall Try.prog base W0 β0 12 [(Sl.hv x0), (Sl.hv x1)] S (fun v S1 => v = (.bool p.1) ∧ S1 = p.2) := by
  unfold f at h
  refine HCall.of_run at_.at_ body ?_
  show HRun Try.prog base W0 β0 12 none [.code c0] ⟨[(Sl.hv x0), (Sl.hv x1), .tup [], .tup [], .tup [], .tup [], .tup [], .tup [], .tup [], .tup [], .tup [], .tup [], .tup [], .tup [], .tup [], .tup [], .tup [], .tup [], .tup [], .tup [], .tup [], .tup [], .tup [], .tup [], .tup [], .tup []], []⟩ S _
  refine q_seq e0 ?_
  refine q_region e1 rfl ?_
  refine q_op (dst := some 4) rfl (fun _ ho => ok_assign ho (.bool _)) ?_
  refine hr_region_end ?_
  try dsimp only [HAct.put, List.set_cons_zero, List.set_cons_succ]
  refine q_seq e2 ?_
  refine q_seq e3 ?_
  refine q_region e4 rfl ?_
  refine q_op (dst := some 6) rfl (fun _ ho => ok_move ho (.tmp rfl)) ?_
  refine q_op (dst := some 7) rfl (fun _ ho => ok_len_sl (q := Sl.a x0) (n := Sl.len x0) (z := Sl.cap x0) ho rfl tu24 (.tmp rfl)) ?_
  refine q_op (dst := some 8) rfl (fun _ ho => ok_move ho (.tmp rfl)) ?_
  refine q_op (dst := some 9) rfl (fun _ ho => ok_len_sl (q := Sl.a x1) (n := Sl.len x1) (z := Sl.cap x1) ho rfl tu24 (.tmp rfl)) ?_
  try dsimp only [HAct.put, List.set_cons_zero, List.set_cons_succ]
  refine q_op (dst := some 10) rfl (fun _ ho => ok_ibin ho (.tmp rfl) (.tmp rfl) rfl) ?_
  refine hr_region_end ?_
  try dsimp only [HAct.put, List.set_cons_zero, List.set_cons_succ]
  rcases ifc h with ⟨hc1, h⟩ | ⟨hc1, h⟩
  · refine q_cond_t e5 (.tmp rfl) hc1 ?_
    refine q_seq e6 ?_
    refine q_region e7 rfl ?_
    refine q_op (dst := some 4) rfl (fun _ ho => ok_assign ho (.bool _)) ?_
    refine hr_region_end ?_
    try dsimp only [HAct.put, List.set_cons_zero, List.set_cons_succ]
    cases h
    exact q_ret e8 at_.at_ rfl (res1 rfl rfl) ⟨rfl, rfl⟩
  · refine q_cond_f e5 (.tmp rfl) (bfalse hc1) ?_
    refine q_skipc e9 ?_
    refine q_seq e10 ?_
    refine q_seq e11 ?_
    refine q_region e12 rfl ?_
    refine q_op (dst := some 5) rfl (fun _ ho => ok_assign ho (.int _ _)) ?_
    refine hr_region_end ?_
    try dsimp only [HAct.put, List.set_cons_zero, List.set_cons_succ]
    refine q_block e13 ?_
    refine q_loop e14 ?_
    try dsimp only [HAct.put, List.set_cons_zero, List.set_cons_succ]
    exact L0_snd  h
end
end rollcallref10_Same
namespace rollcalllaw10_awake
abbrev id : Nat := 6
theorem at_ : FnAt Try.prog 6 Try.f6 := ⟨Try.func6, by kernel_rfl⟩
noncomputable def c0 : Code := (Try.f6.body).getD .skip
noncomputable def c1 : Code := match c0 with | .seq x _ => x | _ => .skip
noncomputable def c2 : Code := match c0 with | .seq _ x => x | _ => .skip
noncomputable def c3 : Code := match c2 with | .seq x _ => x | _ => .skip
noncomputable def c4 : Code := match c2 with | .seq _ x => x | _ => .skip
noncomputable def c5 : Code := match c4 with | .seq x _ => x | _ => .skip
noncomputable def c6 : Code := match c4 with | .seq _ x => x | _ => .skip
theorem e0 : c0 = .seq c1 c2 := by kernel_rfl
noncomputable def r1 : Array Oper := match c1 with | .region _ x _ => x | _ => #[]
theorem e1 : c1 = .region 0 r1 false := by kernel_rfl
theorem e2 : c2 = .seq c3 c4 := by kernel_rfl
noncomputable def r3 : Array Oper := match c3 with | .region _ x _ => x | _ => #[]
theorem e3 : c3 = .region 1 r3 false := by kernel_rfl
theorem e4 : c4 = .seq c5 c6 := by kernel_rfl
noncomputable def r5 : Array Oper := match c5 with | .region _ x _ => x | _ => #[]
theorem e5 : c5 = .region 2 r5 false := by kernel_rfl
theorem e6 : c6 = .ret := by kernel_rfl
theorem body : Try.f6.body = some c0 := by kernel_rfl
section
variable {base : Nat} {W0 : World} {β0 : Bt}
def J0 (D : Dp) (H : Hd) (k : Nat) (y18 : Bool) (S : HS) : Option ((Bool) × HS) :=
  some (y18, S)
theorem J0_snd {D : Dp} {H : Hd} {k : Nat} (hD : DSound Try.prog base W0 D) (hH : HSound Try.prog base W0 β0 H)  {y18 : Bool} {S : HS} {p : (Bool) × HS} {g0 g1 g2 g3 g4 g5 g6 g7 g8 g9 g10 g11 g12 g13 g14 g15 g16 g17 : HV} (h : J0 D H k y18 S = some p) : HRun Try.prog base W0 β0 6 none [.inRegion r5 [6], .code c6] ⟨[g0, g1, g2, g3, g4, g5, g6, g7, g8, g9, g10, g11, g12, g13, g14, g15, g16, g17, (.bool y18)], []⟩ S (fun v S1 => v = (.bool p.1) ∧ S1 = p.2) := by
  unfold J0 at h
  refine q_op (dst := some 0) rfl (fun _ ho => ok_assign ho (.tmp rfl)) ?_
  refine hr_region_end ?_
  try dsimp only [HAct.put, List.set_cons_zero, List.set_cons_succ]
  cases h
  exact q_ret e6 at_.at_ rfl (res1 rfl rfl) ⟨rfl, rfl⟩
def f (D : Dp) (H : Hd) (k : Nat) (S : HS) : Option ((Bool) × HS) :=
  (letv (HS.lit S [[(.int .i64 1)], [(.int .i64 3)]] 1) fun p1 =>
  (Option.bind (set_Of_int.f k (p1.1) (p1.2)) fun p2 =>
  (letv (HS.lit p2.2 [[(.int .i64 2)], [(.int .i64 3)]] 1) fun p3 =>
  (Option.bind (set_Of_int.f k (p3.1) (p3.2)) fun p4 =>
  (letv (HS.lit p4.2 [[(.ptr p2.1)], [(.ptr p4.1)]] 1) fun p5 =>
  (Option.bind (set_Union_int.f k (p5.1) (p5.2)) fun p6 =>
  (Option.bind (rollcalllaw10_told.f D H p6.1 9 p6.2) fun p7 =>
  (if p7.1.2 = true then
  (letv (HS.lit p7.2 [[(.int .i64 1)], [(.int .i64 2)], [(.int .i64 3)]] 1) fun p9 =>
  (Option.bind (rollcallref10_Same.f k p7.1.1 (p9.1) (p9.2)) fun p10 =>
  J0 D H k p10.1 p10.2)) else
  J0 D H k false p7.2))))))))
theorem snd {D : Dp} {H : Hd} {k : Nat} {S : HS} (hD : DSound Try.prog base W0 D) (hH : HSound Try.prog base W0 β0 H)  {p : (Bool) × HS} (h : f D H k S = some p) : HCall Try.prog base W0 β0 6 [] S (fun v S1 => v = (.bool p.1) ∧ S1 = p.2) := by
  unfold f at h
  refine HCall.of_run at_.at_ body ?_
  show HRun Try.prog base W0 β0 6 none [.code c0] ⟨[.tup [], .tup [], .tup [], .tup [], .tup [], .tup [], .tup [], .tup [], .tup [], .tup [], .tup [], .tup [], .tup [], .tup [], .tup [], .tup [], .tup [], .tup [], .tup []], []⟩ S _
  refine q_seq e0 ?_
  refine q_region e1 rfl ?_
  refine q_op (dst := some 0) rfl (fun _ ho => ok_assign ho (.bool _)) ?_
  refine hr_region_end ?_
  try dsimp only [HAct.put, List.set_cons_zero, List.set_cons_succ]
  refine q_seq e2 ?_
  refine q_region e3 rfl ?_
  obtain ⟨p1, hp1, h⟩ := leto h
  refine q_op (dst := some 4) rfl (fun _ ho => ok_buildSlice_s (xs := [(.const (.int .i64 1)), (.const (.int .i64 3))]) el24 ho rfl rfl (by decide) (.cons (.int _ _) (.cons (.int _ _) Evs.nil)) rfl rfl hp1) ?_
  obtain ⟨p2, hp2, h⟩ := bindo h
  refine q_call (dst := some 5) rfl (.func _) (.cons (.tmp rfl) Evs.nil) (HInv.static set_Of_int.at_ set_Of_int.body (set_Of_int.snd  hp2)) ?_
  rintro _ _ ⟨rfl, rfl⟩
  obtain ⟨p3, hp3, h⟩ := leto h
  refine q_op (dst := some 6) rfl (fun _ ho => ok_buildSlice_s (xs := [(.const (.int .i64 2)), (.const (.int .i64 3))]) el24 ho rfl rfl (by decide) (.cons (.int _ _) (.cons (.int _ _) Evs.nil)) rfl rfl hp3) ?_
  obtain ⟨p4, hp4, h⟩ := bindo h
  refine q_call (dst := some 7) rfl (.func _) (.cons (.tmp rfl) Evs.nil) (HInv.static set_Of_int.at_ set_Of_int.body (set_Of_int.snd  hp4)) ?_
  rintro _ _ ⟨rfl, rfl⟩
  try dsimp only [HAct.put, List.set_cons_zero, List.set_cons_succ]
  obtain ⟨p5, hp5, h⟩ := leto h
  refine q_op (dst := some 8) rfl (fun _ ho => ok_buildSlice_s (xs := [(.tmp 5), (.tmp 7)]) el25 ho rfl rfl (by decide) (.cons (.tmp rfl) (.cons (.tmp rfl) Evs.nil)) rfl rfl hp5) ?_
  obtain ⟨p6, hp6, h⟩ := bindo h
  refine q_call (dst := some 9) rfl (.func _) (.cons (.tmp rfl) Evs.nil) (HInv.static set_Union_int.at_ set_Union_int.body (set_Union_int.snd  hp6)) ?_
  rintro _ _ ⟨rfl, rfl⟩
  obtain ⟨p7, hp7, h⟩ := bindo h
  refine q_call (dst := some 10) rfl (.func _) (.cons (.tmp rfl) (.cons (.int _ _) Evs.nil)) (HInv.static rollcalllaw10_told.at_ rollcalllaw10_told.body (rollcalllaw10_told.snd hD hH hp7)) ?_
  rintro _ _ ⟨rfl, rfl⟩
  refine q_op (dst := some 3) rfl (fun _ ho => ok_move ho (.tmp rfl)) ?_
  try dsimp only [HAct.put, List.set_cons_zero, List.set_cons_succ]
  refine q_op (dst := some 11) rfl (fun _ ho => ok_extract ho (.tmp rfl) rfl) ?_
  refine q_op (dst := some 12) rfl (fun _ ho => ok_extract ho (.tmp rfl) rfl) ?_
  refine q_op (dst := some 1) rfl (fun _ ho => ok_assign ho (.tmp rfl)) ?_
  refine q_op (dst := some 2) rfl (fun _ ho => ok_assign ho (.tmp rfl)) ?_
  refine hr_region_end ?_
  try dsimp only [HAct.put, List.set_cons_zero, List.set_cons_succ]
  refine q_seq e4 ?_
  refine q_region e5 rfl ?_
  refine q_op (dst := some 13) rfl (fun _ ho => ok_move ho (.tmp rfl)) ?_
  refine q_op (dst := some 14) rfl (fun _ ho => ok_move ho (.tmp rfl)) ?_
  rcases ifc h with ⟨hc8, h⟩ | ⟨hc8, h⟩
  · refine q_op_g (t := 14) (dst := some 15) rfl rfl rfl hc8 (fun _ ho => ok_move ho (.tmp rfl)) ?_
    obtain ⟨p9, hp9, h⟩ := leto h
    refine q_op_g (t := 14) (dst := some 16) rfl rfl rfl hc8 (fun _ ho => ok_buildSlice_s (xs := [(.const (.int .i64 1)), (.const (.int .i64 2)), (.const (.int .i64 3))]) el24 ho rfl rfl (by decide) (.cons (.int _ _) (.cons (.int _ _) (.cons (.int _ _) Evs.nil))) rfl rfl hp9) ?_
    try dsimp only [HAct.put, List.set_cons_zero, List.set_cons_succ]
    obtain ⟨p10, hp10, h⟩ := bindo h
    refine q_call_g (t := 14) (dst := some 17) rfl rfl rfl hc8 (.func _) (.cons (.tmp rfl) (.cons (.tmp rfl) Evs.nil)) (HInv.static rollcallref10_Same.at_ rollcallref10_Same.body (rollcallref10_Same.snd  hp10)) ?_
    rintro _ _ ⟨rfl, rfl⟩
    refine q_op (dst := some 18) rfl (fun _ ho => ok_pick_tt ho (.tmp rfl) hc8 (.tmp rfl)) ?_
    try dsimp only [HAct.put, List.set_cons_zero, List.set_cons_succ]
    exact J0_snd hD hH h
  · refine q_skip (dst := some 15) (t := 14) rfl rfl rfl (bfalse hc8) ?_
    refine q_skip (dst := some 16) (t := 14) rfl rfl rfl (bfalse hc8) ?_
    try dsimp only [HAct.put, List.set_cons_zero, List.set_cons_succ]
    refine q_skip (dst := some 17) (t := 14) rfl rfl rfl (bfalse hc8) ?_
    refine q_op (dst := some 18) rfl (fun _ ho => ok_pick_ff ho (.tmp rfl) (bfalse hc8) (.bool _)) ?_
    try dsimp only [HAct.put, List.set_cons_zero, List.set_cons_succ]
    exact J0_snd hD hH h
end
end rollcalllaw10_awake
namespace set_Without_int_1
abbrev id : Nat := 25
theorem at_ : FnAt Try.prog 25 Try.f25 := ⟨Try.func25, by kernel_rfl⟩
noncomputable def c0 : Code := (Try.f25.body).getD .skip
noncomputable def c1 : Code := match c0 with | .seq x _ => x | _ => .skip
noncomputable def c2 : Code := match c0 with | .seq _ x => x | _ => .skip
noncomputable def c3 : Code := match c2 with | .seq x _ => x | _ => .skip
noncomputable def c4 : Code := match c3 with | .seq x _ => x | _ => .skip
noncomputable def c5 : Code := match c3 with | .seq _ x => x | _ => .skip
noncomputable def c6 : Code := match c5 with | .cond _ x _ => x | _ => .skip
noncomputable def c7 : Code := match c5 with | .cond _ _ x => x | _ => .skip
noncomputable def c8 : Code := match c2 with | .seq _ x => x | _ => .skip
noncomputable def c9 : Code := match c8 with | .seq x _ => x | _ => .skip
noncomputable def c10 : Code := match c8 with | .seq _ x => x | _ => .skip
noncomputable def c11 : Code := match c10 with | .block _ x => x | _ => .skip
noncomputable def c12 : Code := match c11 with | .rangeFunc _ _ x _ => x | _ => .skip
noncomputable def c13 : Code := match c11 with | .rangeFunc _ _ _ x => x | _ => .skip
noncomputable def c14 : Code := match c13 with | .block _ x => x | _ => .skip
noncomputable def c15 : Code := match c14 with | .seq x _ => x | _ => .skip
noncomputable def c16 : Code := match c14 with | .seq _ x => x | _ => .skip
noncomputable def c17 : Code := match c16 with | .cond _ x _ => x | _ => .skip
noncomputable def c18 : Code := match c16 with | .cond _ _ x => x | _ => .skip
theorem e0 : c0 = .seq c1 c2 := by kernel_rfl
noncomputable def r1 : Array Oper := match c1 with | .region _ x _ => x | _ => #[]
theorem e1 : c1 = .region 0 r1 false := by kernel_rfl
theorem e2 : c2 = .seq c3 c8 := by kernel_rfl
theorem e3 : c3 = .seq c4 c5 := by kernel_rfl
noncomputable def r4 : Array Oper := match c4 with | .region _ x _ => x | _ => #[]
theorem e4 : c4 = .region 1 r4 false := by kernel_rfl
theorem e5 : c5 = .cond (.tmp 6) c6 c7 := by kernel_rfl
theorem e6 : c6 = .ret := by kernel_rfl
theorem e7 : c7 = .skip := by kernel_rfl
theorem e8 : c8 = .seq c9 c10 := by kernel_rfl
noncomputable def r9 : Array Oper := match c9 with | .region _ x _ => x | _ => #[]
theorem e9 : c9 = .region 2 r9 false := by kernel_rfl
theorem e10 : c10 = .block 0 c11 := by kernel_rfl
theorem e11 : c11 = .rangeFunc (.tmp 7) #[8] c12 c13 := by kernel_rfl
noncomputable def r12 : Array Oper := match c12 with | .region _ x _ => x | _ => #[]
theorem e12 : c12 = .region 3 r12 false := by kernel_rfl
theorem e13 : c13 = .block 1 c14 := by kernel_rfl
theorem e14 : c14 = .seq c15 c16 := by kernel_rfl
noncomputable def r15 : Array Oper := match c15 with | .region _ x _ => x | _ => #[]
theorem e15 : c15 = .region 4 r15 false := by kernel_rfl
theorem e16 : c16 = .cond (.tmp 17) c17 c18 := by kernel_rfl
theorem e17 : c17 = .ret := by kernel_rfl
theorem e18 : c18 = .skip := by kernel_rfl
theorem body : Try.f25.body = some c0 := by kernel_rfl
section
variable {base : Nat} {W0 : World} {β0 : Bt}
def J1 (D : Dp) (H : Hd) (l : Nat) (y17 : Bool) (S : HS) : Option (HV × HS) :=
  (if y17 = true then
  (HS.endr S l (some .ret)) else
  (HS.endr S l none))
theorem J1_snd {D : Dp} {H : Hd} {l : Nat} (hD : DSound Try.prog base W0 D) (hH : HSound Try.prog base W0 β0 H)  {y17 : Bool} {S : HS} {p : HV × HS} {g0 g1 g2 g3 g4 g5 g6 g7 g8 g9 g10 g11 g12 g13 g14 g15 g16 : HV} (h : J1 D H l y17 S = some p) : HRun Try.prog base W0 β0 25 (some l) [.code c16, .inBlock 1] ⟨[g0, g1, g2, g3, g4, g5, g6, g7, g8, g9, g10, g11, g12, g13, g14, g15, g16, (.bool y17)], []⟩ S (fun v S1 => v = p.1 ∧ S1 = p.2) := by
  unfold J1 at h
  rcases ifc h with ⟨hc18, h⟩ | ⟨hc18, h⟩
  · refine q_cond_t e16 (.tmp rfl) hc18 ?_
    exact q_round_ret e17 h ⟨rfl, rfl⟩
  · refine q_cond_f e16 (.tmp rfl) (bfalse hc18) ?_
    refine q_skipc e18 ?_
    refine hr_inBlock ?_
    exact q_round_end h ⟨rfl, rfl⟩
def J0 (D : Dp) (H : Hd) (l : Nat) (y2 : (Option HA)) (y3 : (Option HA)) (y8 : Int) (S : HS) : Option (HV × HS) :=
  (Option.bind (HS.begin_ S l) fun p10 =>
  (Option.bind (y2) fun p11 =>
  (Option.bind (HS.ldI p10 .i64 p11) fun p12 =>
  (if (!decide (y8 = p12)) = true then
  (Option.bind (y3) fun p14 =>
  (Option.bind (HS.ldF p10 p14) fun p15 =>
  (Option.bind (D H p15 [(.int .i64 y8)] p10) fun p16 =>
  (Option.bind (dB p16.1) fun p17 =>
  J1 D H l (!p17) p16.2)))) else
  J1 D H l false p10))))
theorem J0_snd {D : Dp} {H : Hd} {l : Nat} (hD : DSound Try.prog base W0 D) (hH : HSound Try.prog base W0 β0 H)  {y2 : (Option HA)} {y3 : (Option HA)} {y8 : Int} {S : HS} {p : HV × HS} {g0 g1 g4 g5 g6 g7 g9 g10 g11 g12 g13 g14 g15 g16 g17 : HV} (h : J0 D H l y2 y3 y8 S = some p) : HRun Try.prog base W0 β0 25 (some l) [.code c12, .beginRound, .code c13] ⟨[g0, g1, (.ptr y2), (.ptr y3), g4, g5, g6, g7, (.int .i64 y8), g9, g10, g11, g12, g13, g14, g15, g16, g17], []⟩ S (fun v S1 => v = p.1 ∧ S1 = p.2) := by
  unfold J0 at h
  refine q_region e12 rfl ?_
  refine q_op (dst := some 4) rfl (fun _ ho => ok_assign ho (.tmp rfl)) ?_
  refine hr_region_end ?_
  try dsimp only [HAct.put, List.set_cons_zero, List.set_cons_succ]
  obtain ⟨p10, hp10, h⟩ := bindo h
  refine q_begin hp10 ?_
  refine q_block e13 ?_
  refine q_seq e14 ?_
  refine q_region e15 rfl ?_
  refine q_op (dst := some 9) rfl (fun _ ho => ok_move ho (.tmp rfl)) ?_
  obtain ⟨p11, hp11, h⟩ := bindo h
  obtain ⟨p12, hp12, h⟩ := bindo h
  refine q_op (dst := some 10) rfl (fun _ ho => ok_load_s ho sc3 (.tmp rfl) hp11 (ldI_out hp12)) ?_
  refine q_op (dst := some 11) rfl (fun _ ho => ok_ibin ho (.tmp rfl) (.tmp rfl) rfl) ?_
  refine q_op (dst := some 12) rfl (fun _ ho => ok_move ho (.tmp rfl)) ?_
  try dsimp only [HAct.put, List.set_cons_zero, List.set_cons_succ]
  rcases ifc h with ⟨hc13, h⟩ | ⟨hc13, h⟩
  · obtain ⟨p14, hp14, h⟩ := bindo h
    obtain ⟨p15, hp15, h⟩ := bindo h
    refine q_op_g (t := 12) (dst := some 13) rfl rfl rfl hc13 (fun _ ho => ok_load_s ho sc47 (.tmp rfl) hp14 (ldF_out hp15)) ?_
    refine q_op_g (t := 12) (dst := some 14) rfl rfl rfl hc13 (fun _ ho => ok_move ho (.tmp rfl)) ?_
    obtain ⟨p16, hp16, h⟩ := bindo h
    obtain ⟨p17, hp17, h⟩ := bindo h
    refine q_call_g (t := 12) (dst := some 15) rfl rfl rfl hc13 (.tmp rfl) (.cons (.tmp rfl) Evs.nil) (hD _ _ hH _ _ _ _ _ hp16) ?_
    rintro _ _ ⟨rfl, rfl⟩
    rw [dB_out hp17]
    refine q_op_g (t := 12) (dst := some 16) rfl rfl rfl hc13 (fun _ ho => ok_not ho (.tmp rfl)) ?_
    try dsimp only [HAct.put, List.set_cons_zero, List.set_cons_succ]
    refine q_op (dst := some 17) rfl (fun _ ho => ok_pick_tt ho (.tmp rfl) hc13 (.tmp rfl)) ?_
    refine hr_region_end ?_
    try dsimp only [HAct.put, List.set_cons_zero, List.set_cons_succ]
    try dsimp only [HAct.put, List.set_cons_zero, List.set_cons_succ]
    exact J1_snd hD hH h
  · refine q_skip (dst := some 13) (t := 12) rfl rfl rfl (bfalse hc13) ?_
    refine q_skip (dst := some 14) (t := 12) rfl rfl rfl (bfalse hc13) ?_
    refine q_skip (dst := some 15) (t := 12) rfl rfl rfl (bfalse hc13) ?_
    refine q_skip (dst := some 16) (t := 12) rfl rfl rfl (bfalse hc13) ?_
    try dsimp only [HAct.put, List.set_cons_zero, List.set_cons_succ]
    refine q_op (dst := some 17) rfl (fun _ ho => ok_pick_ff ho (.tmp rfl) (bfalse hc13) (.bool _)) ?_
    refine hr_region_end ?_
    try dsimp only [HAct.put, List.set_cons_zero, List.set_cons_succ]
    try dsimp only [HAct.put, List.set_cons_zero, List.set_cons_succ]
    exact J1_snd hD hH h
def f (D : Dp) (H : Hd) (x0 : HV) (x1 : (Option HA)) (x2 : (Option HA)) (S : HS) : Option ((Unit) × HS) :=
  (Option.bind (dF x0) fun p1 =>
  (letv (HS.new S (.cells 1 [[p1]] true)) fun p2 =>
  (Option.bind (x1) fun p3 =>
  (Option.bind (HS.ldF p2 p3) fun p4 =>
  (Option.bind (HV.isNilFn p4) fun p5 =>
  (if (p5) = true then
  (Option.bind (HS.leave p2 []) fun p7 =>
  some ((), p7)) else
  (Option.bind (x1) fun p8 =>
  (Option.bind (HS.ldF p2 p8) fun p9 =>
  (Option.bind (D (Hd.set H (HS.next p2 + 1) fun vs T =>
  (Option.bind (HS.lp T (HS.next p2 + 1)) fun u21 =>
  (Option.bind (args1 vs) fun ar19 =>
  (Option.bind (dI .i64 ar19) fun p20 =>
  (J0 D H (HS.next p2 + 1) x2 (some (HA.cell0 S.next)) p20 T))))) p9 [.fn (.yield (HS.next p2 + 1)) [] []] (HS.new (HS.new p2 .defer) (.loop .ready none))) fun p22 =>
  (Option.bind (HS.finish p22.2 (HS.next p2 + 1)) fun p23 =>
  (Option.bind (pcode p23.1) fun n24 =>
  (if n24 = 0 then
  (Option.bind (HS.leave p23.2 (HS.next p2 :: [])) fun p26 =>
  some ((), p26)) else
  (if n24 = 1 then
  (Option.bind (HS.leave p23.2 (HS.next p2 :: [])) fun p28 =>
  some ((), p28)) else
  none)))))))))))))
theorem snd {D : Dp} {H : Hd} {x0 : HV} {x1 : (Option HA)} {x2 : (Option HA)} {S : HS} (hD : DSound Try.prog base W0 D) (hH : HSound Try.prog base W0 β0 H)  {p : (Unit) × HS} (h : f D H x0 x1 x2 S = some p) : HCall Try.prog base W0 β0 25 [x0, (.ptr x1), (.ptr x2)] S (fun v S1 => v = (.tup []) ∧ S1 = p.2) := by
  unfold f at h
  refine HCall.of_run at_.at_ body ?_
  show HRun Try.prog base W0 β0 25 none [.code c0] ⟨[x0, (.ptr x1), (.ptr x2), .tup [], .tup [], .tup [], .tup [], .tup [], .tup [], .tup [], .tup [], .tup [], .tup [], .tup [], .tup [], .tup [], .tup [], .tup []], []⟩ S _
  refine q_seq e0 ?_
  refine q_region e1 rfl ?_
  obtain ⟨p1, hp1, h⟩ := bindo h
  obtain ⟨p2, hp2, h⟩ := leto h
  refine q_op (dst := some 3) rfl (fun _ ho => ok_box_fn ho (.tmp rfl) hp1 hp2) ?_
  refine hr_region_end ?_
  try dsimp only [HAct.put, List.set_cons_zero, List.set_cons_succ]
  refine q_seq e2 ?_
  refine q_seq e3 ?_
  refine q_region e4 rfl ?_
  obtain ⟨p3, hp3, h⟩ := bindo h
  obtain ⟨p4, hp4, h⟩ := bindo h
  refine q_op (dst := some 5) rfl (fun _ ho => ok_load_s ho sc31 (.tmp rfl) hp3 (ldF_out hp4)) ?_
  obtain ⟨p5, hp5, h⟩ := bindo h
  refine q_op (dst := some 6) rfl (fun _ ho => ok_nil_fn ho tu31 (.tmp rfl) hp5 (.inl ⟨rfl, rfl⟩)) ?_
  refine hr_region_end ?_
  try dsimp only [HAct.put, List.set_cons_zero, List.set_cons_succ]
  rcases ifc h with ⟨hc6, h⟩ | ⟨hc6, h⟩
  · refine q_cond_t e5 (.tmp rfl) hc6 ?_
    obtain ⟨p7, hp7, h⟩ := bindo h
    cases h
    exact q_ret e6 at_.at_ hp7 (res0 rfl) ⟨rfl, rfl⟩
  · refine q_cond_f e5 (.tmp rfl) (bfalse hc6) ?_
    refine q_skipc e7 ?_
    refine q_seq e8 ?_
    refine q_region e9 rfl ?_
    obtain ⟨p8, hp8, h⟩ := bindo h
    obtain ⟨p9, hp9, h⟩ := bindo h
    refine q_op (dst := some 7) rfl (fun _ ho => ok_load_s ho sc31 (.tmp rfl) hp8 (ldF_out hp9)) ?_
    refine hr_region_end ?_
    try dsimp only [HAct.put, List.set_cons_zero, List.set_cons_succ]
    refine q_block e10 ?_
    obtain ⟨p22, hp22, h⟩ := bindo h
    obtain ⟨p23, hp23, h⟩ := bindo h
    obtain ⟨n24, hn24, h⟩ := bindo h
    refine q_range (D := D) (H := H) e11 (.tmp rfl) hD hH hp22 hp23 ?_ ?_
    · intro β1 hle hLA vs T u T' hr
      obtain ⟨u21, hu21, hr⟩ := bindo hr
      obtain ⟨ar19, har19, hr⟩ := bindo hr
      obtain ⟨p20, hp20, hr⟩ := bindo hr
      rw [args1_out har19]
      refine q_yield2 hLA hu21 rfl rfl ?_
      rw [dI_out hp20]
      simp only [HAct.params, List.set_cons_zero, List.set_cons_succ]
      exact J0_snd hD (hH.up hle) hr
    · rcases ifc h with ⟨hc25, h⟩ | ⟨hc25, h⟩
      · rw [pcode0 hn24 hc25]
        simp only [jumped_none, jumped_some]
        refine hr_inBlock ?_
        obtain ⟨p26, hp26, h⟩ := bindo h
        cases h
        exact q_end at_.at_ hp26 (res0 rfl) ⟨rfl, rfl⟩
      · rcases ifc h with ⟨hc27, h⟩ | ⟨hc27, h⟩
        · rw [pcode1 hn24 hc27]
          simp only [jumped_none, jumped_some]
          obtain ⟨p28, hp28, h⟩ := bindo h
          cases h
          exact q_ret rfl at_.at_ hp28 (res0 rfl) ⟨rfl, rfl⟩
        · cases h
end
end set_Without_int_1
namespace set_Without_int
abbrev id : Nat := 10
theorem at_ : FnAt Try.prog 10 Try.f10 := ⟨Try.func10, by kernel_rfl⟩
noncomputable def c0 : Code := (Try.f10.body).getD .skip
noncomputable def c1 : Code := match c0 with | .seq x _ => x | _ => .skip
noncomputable def c2 : Code := match c0 with | .seq _ x => x | _ => .skip
noncomputable def c3 : Code := match c2 with | .seq x _ => x | _ => .skip
noncomputable def c4 : Code := match c2 with | .seq _ x => x | _ => .skip
theorem e0 : c0 = .seq c1 c2 := by kernel_rfl
noncomputable def r1 : Array Oper := match c1 with | .region _ x _ => x | _ => #[]
theorem e1 : c1 = .region 0 r1 false := by kernel_rfl
theorem e2 : c2 = .seq c3 c4 := by kernel_rfl
noncomputable def r3 : Array Oper := match c3 with | .region _ x _ => x | _ => #[]
theorem e3 : c3 = .region 1 r3 false := by kernel_rfl
theorem e4 : c4 = .ret := by kernel_rfl
theorem body : Try.f10.body = some c0 := by kernel_rfl
section
variable {base : Nat} {W0 : World} {β0 : Bt}
def f (x0 : HV) (x1 : Int) (S : HS) : Option ((HV) × HS) :=
  (Option.bind (dF x0) fun p1 =>
  (letv (HS.new S (.cells 1 [[p1]] true)) fun p2 =>
  (letv (HS.new p2 (.cells 1 [[(.int .i64 x1)]] true)) fun p3 =>
  some ((HV.fn (.func 25) [] [(.ptr (some (HA.cell0 S.next))), (.ptr (some (HA.cell0 p2.next)))]), p3))))
theorem snd {x0 : HV} {x1 : Int} {S : HS}  {p : (HV) × HS} (h : f x0 x1 S = some p) : HCall Try.prog base W0 β0 10 [x0, (.int .i64 x1)] S (fun v S1 => v = p.1 ∧ S1 = p.2) := by
  unfold f at h
  refine HCall.of_run at_.at_ body ?_
  show HRun Try.prog base W0 β0 10 none [.code c0] ⟨[x0, (.int .i64 x1), .tup [], .tup [], .tup [], .tup []], []⟩ S _
  refine q_seq e0 ?_
  refine q_region e1 rfl ?_
  obtain ⟨p1, hp1, h⟩ := bindo h
  obtain ⟨p2, hp2, h⟩ := leto h
  refine q_op (dst := some 2) rfl (fun _ ho => ok_box_fn ho (.tmp rfl) hp1 hp2) ?_
  obtain ⟨p3, hp3, h⟩ := leto h
  refine q_op (dst := some 3) rfl (fun _ ho => ok_box_e ho (.tmp rfl) (Nat.zero_lt_succ _) rfl hp3) ?_
  refine q_op (dst := some 4) rfl (fun _ ho => ok_assign ho (.const fun _ => .nilFn)) ?_
  refine hr_region_end ?_
  try dsimp only [HAct.put, List.set_cons_zero, List.set_cons_succ]
  refine q_seq e2 ?_
  refine q_region e3 rfl ?_
  refine q_op (dst := some 5) rfl (fun _ ho => ok_makeFunc ho Evs.nil (.cons (.tmp rfl) (.cons (.tmp rfl) Evs.nil))) ?_
  refine q_op (dst := some 4) rfl (fun _ ho => ok_assign ho (.tmp rfl)) ?_
  refine hr_region_end ?_
  try dsimp only [HAct.put, List.set_cons_zero, List.set_cons_succ]
  cases h
  exact q_ret e4 at_.at_ rfl (res1 rfl rfl) ⟨rfl, rfl⟩
end
end set_Without_int
namespace rollcallref10_Has
abbrev id : Nat := 14
theorem at_ : FnAt Try.prog 14 Try.f14 := ⟨Try.func14, by kernel_rfl⟩
noncomputable def c0 : Code := (Try.f14.body).getD .skip
noncomputable def c1 : Code := match c0 with | .seq x _ => x | _ => .skip
noncomputable def c2 : Code := match c0 with | .seq _ x => x | _ => .skip
noncomputable def c3 : Code := match c2 with | .seq x _ => x | _ => .skip
noncomputable def c4 : Code := match c3 with | .seq x _ => x | _ => .skip
noncomputable def c5 : Code := match c3 with | .seq _ x => x | _ => .skip
noncomputable def c6 : Code := match c5 with | .block _ x => x | _ => .skip
noncomputable def c7 : Code := match c6 with | .loop x => x | _ => .skip
noncomputable def c8 : Code := match c7 with | .seq x _ => x | _ => .skip
noncomputable def c9 : Code := match c8 with | .seq x _ => x | _ => .skip
noncomputable def c10 : Code := match c8 with | .seq _ x => x | _ => .skip
noncomputable def c11 : Code := match c10 with | .cond _ x _ => x | _ => .skip
noncomputable def c12 : Code := match c10 with | .cond _ _ x => x | _ => .skip
noncomputable def c13 : Code := match c7 with | .seq _ x => x | _ => .skip
noncomputable def c14 : Code := match c13 with | .seq x _ => x | _ => .skip
noncomputable def c15 : Code := match c14 with | .block _ x => x | _ => .skip
noncomputable def c16 : Code := match c15 with | .seq x _ => x | _ => .skip
noncomputable def c17 : Code := match c15 with | .seq _ x => x | _ => .skip
noncomputable def c18 : Code := match c17 with | .cond _ x _ => x | _ => .skip
noncomputable def c19 : Code := match c18 with | .seq x _ => x | _ => .skip
noncomputable def c20 : Code := match c18 with | .seq _ x => x | _ => .skip
noncomputable def c21 : Code := match c17 with | .cond _ _ x => x | _ => .skip
noncomputable def c22 : Code := match c13 with | .seq _ x => x | _ => .skip
noncomputable def c23 : Code := match c2 with | .seq _ x => x | _ => .skip
noncomputable def c24 : Code := match c23 with | .seq x _ => x | _ => .skip
noncomputable def c25 : Code := match c23 with | .seq _ x => x | _ => .skip
theorem e0 : c0 = .seq c1 c2 := by kernel_rfl
noncomputable def r1 : Array Oper := match c1 with | .region _ x _ => x | _ => #[]
theorem e1 : c1 = .region 0 r1 false := by kernel_rfl
theorem e2 : c2 = .seq c3 c23 := by kernel_rfl
theorem e3 : c3 = .seq c4 c5 := by kernel_rfl
noncomputable def r4 : Array Oper := match c4 with | .region _ x _ => x | _ => #[]
theorem e4 : c4 = .region 1 r4 false := by kernel_rfl
theorem e5 : c5 = .block 0 c6 := by kernel_rfl
theorem e6 : c6 = .loop c7 := by kernel_rfl
theorem e7 : c7 = .seq c8 c13 := by kernel_rfl
theorem e8 : c8 = .seq c9 c10 := by kernel_rfl
noncomputable def r9 : Array Oper := match c9 with | .region _ x _ => x | _ => #[]
theorem e9 : c9 = .region 2 r9 false := by kernel_rfl
theorem e10 : c10 = .cond (.tmp 9) c11 c12 := by kernel_rfl
theorem e11 : c11 = .skip := by kernel_rfl
theorem e12 : c12 = .exit 0 := by kernel_rfl
theorem e13 : c13 = .seq c14 c22 := by kernel_rfl
theorem e14 : c14 = .block 1 c15 := by kernel_rfl
theorem e15 : c15 = .seq c16 c17 := by kernel_rfl
noncomputable def r16 : Array Oper := match c16 with | .region _ x _ => x | _ => #[]
theorem e16 : c16 = .region 4 r16 false := by kernel_rfl
theorem e17 : c17 = .cond (.tmp 17) c18 c21 := by kernel_rfl
theorem e18 : c18 = .seq c19 c20 := by kernel_rfl
noncomputable def r19 : Array Oper := match c19 with | .region _ x _ => x | _ => #[]
theorem e19 : c19 = .region 5 r19 false := by kernel_rfl
theorem e20 : c20 = .ret := by kernel_rfl
theorem e21 : c21 = .skip := by kernel_rfl
noncomputable def r22 : Array Oper := match c22 with | .region _ x _ => x | _ => #[]
theorem e22 : c22 = .region 3 r22 false := by kernel_rfl
theorem e23 : c23 = .seq c24 c25 := by kernel_rfl
noncomputable def r24 : Array Oper := match c24 with | .region _ x _ => x | _ => #[]
theorem e24 : c24 = .region 6 r24 false := by kernel_rfl
theorem e25 : c25 = .ret := by kernel_rfl
theorem body : Try.f14.body = some c0 := by kernel_rfl
section
variable {base : Nat} {W0 : World} {β0 : Bt}
def L0 (k : Nat) : Nat → Sl → Int → Int → HS → Option ((Bool) × HS)
  | 0, _, _, _, _ => none
  | n + 1, y0, y1, y5, S =>
    (if y5 < (Sl.len y0 : Int) then
    (Option.bind (HS.idx S y0 y5 1) fun p2 =>
    (Option.bind (HS.ldI S .i64 p2) fun p3 =>
    (if p3 = y1 then
    some (true, S) else
    (L0 k n) y0 y1 (w64 (y5 + 1)) S))) else
    some (false, S))
theorem L0_snd {k : Nat}  : ∀ {n : Nat} ⦃y0 : Sl⦄ ⦃y1 : Int⦄ ⦃y5 : Int⦄ ⦃S : HS⦄ ⦃p : (Bool) × HS⦄ ⦃g2 g3 g4 g6 g7 g8 g9 g10 g11 g12 g13 g14 g15 g16 g17 : HV⦄, L0 k n y0 y1 y5 S = some p → HRun Try.prog base W0 β0 14 none [.inLoop c7, .inBlock 0, .code c23] ⟨[(Sl.hv y0), (.int .i64 y1), g2, g3, g4, (.int .i64 y5), g6, g7, g8, g9, g10, g11, g12, g13, g14, g15, g16, g17], []⟩ S (fun v S1 => v = (.bool p.1) ∧ S1 = p.2) := by
  intro n
  induction n with
  | zero => intro _ _ _ _ _ _ _ _ _ _ _ _ _ _ _ _ _ _ _ _ h; cases h
  | succ n ih =>
    intro y0 y1 y5 S p g2 g3 g4 g6 g7 g8 g9 g10 g11 g12 g13 g14 g15 g16 g17 h
    simp only [L0] at h
    refine hr_inLoop ?_
    refine q_seq e7 ?_
    refine q_seq e8 ?_
    refine q_region e9 rfl ?_
    refine q_op (dst := some 6) rfl (fun _ ho => ok_move ho (.tmp rfl)) ?_
    refine q_op (dst := some 7) rfl (fun _ ho => ok_move ho (.tmp rfl)) ?_
    refine q_op (dst := some 8) rfl (fun _ ho => ok_len_sl (q := Sl.a y0) (n := Sl.len y0) (z := Sl.cap y0) ho rfl tu24 (.tmp rfl)) ?_
    refine q_op (dst := some 9) rfl (fun _ ho => ok_ibin ho (.tmp rfl) (.tmp rfl) rfl) ?_
    refine hr_region_end ?_
    try dsimp only [HAct.put, List.set_cons_zero, List.set_cons_succ]
    rcases ifc h with ⟨hc1, h⟩ | ⟨hc1, h⟩
    · refine q_cond_t e10 (.tmp rfl) (decide_eq_true hc1) ?_
      refine q_skipc e11 ?_
      refine q_seq e13 ?_
      refine q_block e14 ?_
      refine q_seq e15 ?_
      refine q_region e16 rfl ?_
      refine q_op (dst := some 12) rfl (fun _ ho => ok_move ho (.tmp rfl)) ?_
      refine q_op (dst := some 13) rfl (fun _ ho => ok_move ho (.tmp rfl)) ?_
      obtain ⟨p2, hp2, h⟩ := bindo h
      refine q_op (dst := some 14) rfl (fun _ ho => ok_indexAddr (s := y0) ho tu24 sz3 (.tmp rfl) (.tmp rfl) hp2) ?_
      obtain ⟨p3, hp3, h⟩ := bindo h
      refine q_op (dst := some 15) rfl (fun _ ho => ok_load_s ho sc3 (.tmp rfl) rfl (ldI_out hp3)) ?_
      try dsimp only [HAct.put, List.set_cons_zero, List.set_cons_succ]
      refine q_op (dst := some 16) rfl (fun _ ho => ok_move ho (.tmp rfl)) ?_
      refine q_op (dst := some 17) rfl (fun _ ho => ok_ibin ho (.tmp rfl) (.tmp rfl) rfl) ?_
      refine hr_region_end ?_
      try dsimp only [HAct.put, List.set_cons_zero, List.set_cons_succ]
      rcases ifc h with ⟨hc4, h⟩ | ⟨hc4, h⟩
      · refine q_cond_t e17 (.tmp rfl) (decide_eq_true hc4) ?_
        refine q_seq e18 ?_
        refine q_region e19 rfl ?_
        refine q_op (dst := some 4) rfl (fun _ ho => ok_assign ho (.bool _)) ?_
        refine hr_region_end ?_
        try dsimp only [HAct.put, List.set_cons_zero, List.set_cons_succ]
        cases h
        exact q_ret e20 at_.at_ rfl (res1 rfl rfl) ⟨rfl, rfl⟩
      · refine q_cond_f e17 (.tmp rfl) (decide_eq_false hc4) ?_
        refine q_skipc e21 ?_
        refine hr_inBlock ?_
        refine q_region e22 rfl ?_
        refine q_op (dst := some 10) rfl (fun _ ho => ok_move ho (.tmp rfl)) ?_
        refine q_op (dst := some 11) rfl (fun _ ho => ok_ibin ho (.tmp rfl) (.int _ _) rfl) ?_
        refine q_op (dst := some 5) rfl (fun _ ho => ok_assign ho (.tmp rfl)) ?_
        refine hr_region_end ?_
        try dsimp only [HAct.put, List.set_cons_zero, List.set_cons_succ]
        try dsimp only [HAct.put, List.set_cons_zero, List.set_cons_succ]
        exact ih h
    · refine q_cond_f e10 (.tmp rfl) (decide_eq_false hc1) ?_
      refine q_exit e12 rfl ?_
      refine q_seq e23 ?_
      refine q_region e24 rfl ?_
      refine q_op (dst := some 4) rfl (fun _ ho => ok_assign ho (.bool _)) ?_
      refine hr_region_end ?_
      try dsimp only [HAct.put, List.set_cons_zero, List.set_cons_succ]
      cases h
      exact q_ret e25 at_.at_ rfl (res1 rfl rfl) ⟨rfl, rfl⟩
def f (k : Nat) (x0 : Sl) (x1 : Int) (S : HS) : Option ((Bool) × HS) :=
  L0 k k x0 x1 0 S
theorem snd {k : Nat} {x0 : Sl} {x1 : Int} {S : HS}  {p : (Bool) × HS} (h : f k x0 x1 S = some p) : HCall Try.prog base W0 β0 14 [(Sl.hv x0), (.int .i64 x1)] S (fun v S1 => v = (.bool p.1) ∧ S1 = p.2) := by
  unfold f at h
  refine HCall.of_run at_.at_ body ?_
  show HRun Try.prog base W0 β0 14 none [.code c0] ⟨[(Sl.hv x0), (.int .i64 x1), .tup [], .tup [], .tup [], .tup [], .tup [], .tup [], .tup [], .tup [], .tup [], .tup [], .tup [], .tup [], .tup [], .tup [], .tup [], .tup []], []⟩ S _
  refine q_seq e0 ?_
  refine q_region e1 rfl ?_
  refine q_op (dst := some 4) rfl (fun _ ho => ok_assign ho (.bool _)) ?_
  refine hr_region_end ?_
  try dsimp only [HAct.put, List.set_cons_zero, List.set_cons_succ]
  refine q_seq e2 ?_
  refine q_seq e3 ?_
  refine q_region e4 rfl ?_
  refine q_op (dst := some 5) rfl (fun _ ho => ok_assign ho (.int _ _)) ?_
  refine hr_region_end ?_
  try dsimp only [HAct.put, List.set_cons_zero, List.set_cons_succ]
  refine q_block e5 ?_
  refine q_loop e6 ?_
  try dsimp only [HAct.put, List.set_cons_zero, List.set_cons_succ]
  exact L0_snd  h
end
end rollcallref10_Has
namespace rollcallref10_Add
abbrev id : Nat := 17
theorem at_ : FnAt Try.prog 17 Try.f17 := ⟨Try.func17, by kernel_rfl⟩
noncomputable def c0 : Code := (Try.f17.body).getD .skip
noncomputable def c1 : Code := match c0 with | .seq x _ => x | _ => .skip
noncomputable def c2 : Code := match c0 with | .seq _ x => x | _ => .skip
noncomputable def c3 : Code := match c2 with | .seq x _ => x | _ => .skip
noncomputable def c4 : Code := match c3 with | .seq x _ => x | _ => .skip
noncomputable def c5 : Code := match c3 with | .seq _ x => x | _ => .skip
noncomputable def c6 : Code := match c5 with | .cond _ x _ => x | _ => .skip
noncomputable def c7 : Code := match c6 with | .seq x _ => x | _ => .skip
noncomputable def c8 : Code := match c6 with | .seq _ x => x | _ => .skip
noncomputable def c9 : Code := match c5 with | .cond _ _ x => x | _ => .skip
noncomputable def c10 : Code := match c2 with | .seq _ x => x | _ => .skip
noncomputable def c11 : Code := match c10 with | .seq x _ => x | _ => .skip
noncomputable def c12 : Code := match c10 with | .seq _ x => x | _ => .skip
noncomputable def c13 : Code := match c12 with | .seq x _ => x | _ => .skip
noncomputable def c14 : Code := match c12 with | .seq _ x => x | _ => .skip
noncomputable def c15 : Code := match c14 with | .seq x _ => x | _ => .skip
noncomputable def c16 : Code := match c15 with | .seq x _ => x | _ => .skip
noncomputable def c17 : Code := match c15 with | .seq _ x => x | _ => .skip
noncomputable def c18 : Code := match c17 with | .block _ x => x | _ => .skip
noncomputable def c19 : Code := match c18 with | .loop x => x | _ => .skip
noncomputable def c20 : Code := match c19 with | .seq x _ => x | _ => .skip
noncomputable def c21 : Code := match c20 with | .seq x _ => x | _ => .skip
noncomputable def c22 : Code := match c20 with | .seq _ x => x | _ => .skip
noncomputable def c23 : Code := match c22 with | .cond _ x _ => x | _ => .skip
noncomputable def c24 : Code := match c22 with | .cond _ _ x => x | _ => .skip
noncomputable def c25 : Code := match c19 with | .seq _ x => x | _ => .skip
noncomputable def c26 : Code := match c25 with | .seq x _ => x | _ => .skip
noncomputable def c27 : Code := match c26 with | .block _ x => x | _ => .skip
noncomputable def c28 : Code := match c27 with | .seq x _ => x | _ => .skip
noncomputable def c29 : Code := match c28 with | .seq x _ => x | _ => .skip
noncomputable def c30 : Code := match c28 with | .seq _ x => x | _ => .skip
noncomputable def c31 : Code := match c30 with | .cond _ x _ => x | _ => .skip
noncomputable def c32 : Code := match c31 with | .seq x _ => x | _ => .skip
noncomputable def c33 : Code := match c31 with | .seq _ x => x | _ => .skip
noncomputable def c34 : Code := match c30 with | .cond _ _ x => x | _ => .skip
noncomputable def c35 : Code := match c27 with | .seq _ x => x | _ => .skip
noncomputable def c36 : Code := match c25 with | .seq _ x => x | _ => .skip
noncomputable def c37 : Code := match c14 with | .seq _ x => x | _ => .skip
noncomputable def c38 : Code := match c37 with | .seq x _ => x | _ => .skip
noncomputable def c39 : Code := match c38 with | .seq x _ => x | _ => .skip
noncomputable def c40 : Code := match c38 with | .seq _ x => x | _ => .skip
noncomputable def c41 : Code := match c40 with | .cond _ x _ => x | _ => .skip
noncomputable def c42 : Code := match c40 with | .cond _ _ x => x | _ => .skip
noncomputable def c43 : Code := match c37 with | .seq _ x => x | _ => .skip
noncomputable def c44 : Code := match c43 with | .seq x _ => x | _ => .skip
noncomputable def c45 : Code := match c43 with | .seq _ x => x | _ => .skip
theorem e0 : c0 = .seq c1 c2 := by kernel_rfl
noncomputable def r1 : Array Oper := match c1 with | .region _ x _ => x | _ => #[]
theorem e1 : c1 = .region 0 r1 false := by kernel_rfl
theorem e2 : c2 = .seq c3 c10 := by kernel_rfl
theorem e3 : c3 = .seq c4 c5 := by kernel_rfl
noncomputable def r4 : Array Oper := match c4 with | .region _ x _ => x | _ => #[]
theorem e4 : c4 = .region 1 r4 false := by kernel_rfl
theorem e5 : c5 = .cond (.tmp 10) c6 c9 := by kernel_rfl
theorem e6 : c6 = .seq c7 c8 := by kernel_rfl
noncomputable def r7 : Array Oper := match c7 with | .region _ x _ => x | _ => #[]
theorem e7 : c7 = .region 2 r7 false := by kernel_rfl
theorem e8 : c8 = .ret := by kernel_rfl
theorem e9 : c9 = .skip := by kernel_rfl
theorem e10 : c10 = .seq c11 c12 := by kernel_rfl
noncomputable def r11 : Array Oper := match c11 with | .region _ x _ => x | _ => #[]
theorem e11 : c11 = .region 3 r11 false := by kernel_rfl
theorem e12 : c12 = .seq c13 c14 := by kernel_rfl
noncomputable def r13 : Array Oper := match c13 with | .region _ x _ => x | _ => #[]
theorem e13 : c13 = .region 4 r13 false := by kernel_rfl
theorem e14 : c14 = .seq c15 c37 := by kernel_rfl
theorem e15 : c15 = .seq c16 c17 := by kernel_rfl
noncomputable def r16 : Array Oper := match c16 with | .region _ x _ => x | _ => #[]
theorem e16 : c16 = .region 5 r16 false := by kernel_rfl
theorem e17 : c17 = .block 0 c18 := by kernel_rfl
theorem e18 : c18 = .loop c19 := by kernel_rfl
theorem e19 : c19 = .seq c20 c25 := by kernel_rfl
theorem e20 : c20 = .seq c21 c22 := by kernel_rfl
noncomputable def r21 : Array Oper := match c21 with | .region _ x _ => x | _ => #[]
theorem e21 : c21 = .region 6 r21 false := by kernel_rfl
theorem e22 : c22 = .cond (.tmp 15) c23 c24 := by kernel_rfl
theorem e23 : c23 = .skip := by kernel_rfl
theorem e24 : c24 = .exit 0 := by kernel_rfl
theorem e25 : c25 = .seq c26 c36 := by kernel_rfl
theorem e26 : c26 = .block 1 c27 := by kernel_rfl
theorem e27 : c27 = .seq c28 c35 := by kernel_rfl
theorem e28 : c28 = .seq c29 c30 := by kernel_rfl
noncomputable def r29 : Array Oper := match c29 with | .region _ x _ => x | _ => #[]
theorem e29 : c29 = .region 8 r29 false := by kernel_rfl
theorem e30 : c30 = .cond (.tmp 27) c31 c34 := by kernel_rfl
theorem e31 : c31 = .seq c32 c33 := by kernel_rfl
noncomputable def r32 : Array Oper := match c32 with | .region _ x _ => x | _ => #[]
theorem e32 : c32 = .region 9 r32 false := by kernel_rfl
noncomputable def r33 : Array Oper := match c33 with | .region _ x _ => x | _ => #[]
theorem e33 : c33 = .region 10 r33 false := by kernel_rfl
theorem e34 : c34 = .skip := by kernel_rfl
noncomputable def r35 : Array Oper := match c35 with | .region _ x _ => x | _ => #[]
theorem e35 : c35 = .region 11 r35 false := by kernel_rfl
noncomputable def r36 : Array Oper := match c36 with | .region _ x _ => x | _ => #[]
theorem e36 : c36 = .region 7 r36 false := by kernel_rfl
theorem e37 : c37 = .seq c38 c43 := by kernel_rfl
theorem e38 : c38 = .seq c39 c40 := by kernel_rfl
noncomputable def r39 : Array Oper := match c39 with | .region _ x _ => x | _ => #[]
theorem e39 : c39 = .region 12 r39 false := by kernel_rfl
theorem e40 : c40 = .cond (.tmp 40) c41 c42 := by kernel_rfl
noncomputable def r41 : Array Oper := match c41 with | .region _ x _ => x | _ => #[]
theorem e41 : c41 = .region 13 r41 false := by kernel_rfl
theorem e42 : c42 = .skip := by kernel_rfl
theorem e43 : c43 = .seq c44 c45 := by kernel_rfl
noncomputable def r44 : Array Oper := match c44 with | .region _ x _ => x | _ => #[]
theorem e44 : c44 = .region 14 r44 false := by kernel_rfl
theorem e45 : c45 = .ret := by kernel_rfl
theorem body : Try.f17.body = some c0 := by kernel_rfl
section
variable {base : Nat} {W0 : World} {β0 : Bt}
def J2 (k : Nat) (rec0 : Sl → Int → Sl → Bool → Int → HS → Option ((Sl) × HS)) (y0 : Sl) (y1 : Int) (y5 : Sl) (y6 : Bool) (y7 : Int) (S : HS) : Option ((Sl) × HS) :=
  (Option.bind (HS.idx S y0 y7 1) fun p11 =>
  (Option.bind (HS.ldI S .i64 p11) fun p12 =>
  (letv (HS.lit S [[(.int .i64 p12)]] 1) fun p13 =>
  (Option.bind (HS.rows (p13.2) (p13.1) 1) fun p14 =>
  (Option.bind (HS.app (p13.2) y5 p14 1) fun p15 =>
  rec0 y0 y1 (p15.1) y6 (w64 (y7 + 1)) (p15.2))))))
theorem J2_snd {k : Nat} {rec0 : Sl → Int → Sl → Bool → Int → HS → Option ((Sl) × HS)} (hrec0 : ∀ ⦃y0 : Sl⦄ ⦃y1 : Int⦄ ⦃y5 : Sl⦄ ⦃y6 : Bool⦄ ⦃y7 : Int⦄ ⦃S : HS⦄ ⦃p : (Sl) × HS⦄ ⦃g2 g3 g4 g8 g9 g10 g11 g12 g13 g14 g15 g16 g17 g18 g19 g20 g21 g22 g23 g24 g25 g26 g27 g28 g29 g30 g31 g32 g33 g34 g35 g36 g37 g38 g39 g40 g41 g42 g43 g44 g45 : HV⦄, rec0 y0 y1 y5 y6 y7 S = some p → HRun Try.prog base W0 β0 17 none [.inLoop c19, .inBlock 0, .code c37] ⟨[(Sl.hv y0), (.int .i64 y1), g2, g3, g4, (Sl.hv y5), (.bool y6), (.int .i64 y7), g8, g9, g10, g11, g12, g13, g14, g15, g16, g17, g18, g19, g20, g21, g22, g23, g24, g25, g26, g27, g28, g29, g30, g31, g32, g33, g34, g35, g36, g37, g38, g39, g40, g41, g42, g43, g44, g45], []⟩ S (fun v S1 => v = (Sl.hv p.1) ∧ S1 = p.2)) {y0 : Sl} {y1 : Int} {y5 : Sl} {y6 : Bool} {y7 : Int} {S : HS} {p : (Sl) × HS} {g2 g3 g4 g8 g9 g10 g11 g12 g13 g14 g15 g16 g17 g18 g19 g20 g21 g22 g23 g24 g25 g26 g27 g28 g29 g30 g31 g32 g33 g34 g35 g36 g37 g38 g39 g40 g41 g42 g43 g44 g45 : HV} (h : J2 k rec0 y0 y1 y5 y6 y7 S = some p) : HRun Try.prog base W0 β0 17 none [.code c35, .inBlock 1, .code c36, .inLoop c19, .inBlock 0, .code c37] ⟨[(Sl.hv y0), (.int .i64 y1), g2, g3, g4, (Sl.hv y5), (.bool y6), (.int .i64 y7), g8, g9, g10, g11, g12, g13, g14, g15, g16, g17, g18, g19, g20, g21, g22, g23, g24, g25, g26, g27, g28, g29, g30, g31, g32, g33, g34, g35, g36, g37, g38, g39, g40, g41, g42, g43, g44, g45], []⟩ S (fun v S1 => v = (Sl.hv p.1) ∧ S1 = p.2) := by
  unfold J2 at h
  refine q_region e35 rfl ?_
  refine q_op (dst := some 32) rfl (fun _ ho => ok_move ho (.tmp rfl)) ?_
  refine q_op (dst := some 33) rfl (fun _ ho => ok_move ho (.tmp rfl)) ?_
  refine q_op (dst := some 34) rfl (fun _ ho => ok_move ho (.tmp rfl)) ?_
  obtain ⟨p11, hp11, h⟩ := bindo h
  refine q_op (dst := some 35) rfl (fun _ ho => ok_indexAddr (s := y0) ho tu24 sz3 (.tmp rfl) (.tmp rfl) hp11) ?_
  try dsimp only [HAct.put, List.set_cons_zero, List.set_cons_succ]
  obtain ⟨p12, hp12, h⟩ := bindo h
  refine q_op (dst := some 36) rfl (fun _ ho => ok_load_s ho sc3 (.tmp rfl) rfl (ldI_out hp12)) ?_
  obtain ⟨p13, hp13, h⟩ := leto h
  refine q_op (dst := some 37) rfl (fun _ ho => ok_buildSlice_s (xs := [(.tmp 36)]) el24 ho rfl rfl (by decide) (.cons (.tmp rfl) Evs.nil) rfl rfl hp13) ?_
  obtain ⟨p14, hp14, h⟩ := bindo h
  obtain ⟨p15, hp15, h⟩ := bindo h
  refine q_op (dst := some 38) rfl (fun _ ho => ok_append (s := y5) (s1 := (p13.1)) el24 ho rfl rfl ⟨_, tu24⟩ (.tmp rfl) (.tmp rfl) hp14 hp15) ?_
  refine q_op (dst := some 5) rfl (fun _ ho => ok_assign ho (.tmp rfl)) ?_
  refine hr_region_end ?_
  try dsimp only [HAct.put, List.set_cons_zero, List.set_cons_succ]
  refine hr_inBlock ?_
  refine q_region e36 rfl ?_
  refine q_op (dst := some 16) rfl (fun _ ho => ok_move ho (.tmp rfl)) ?_
  refine q_op (dst := some 17) rfl (fun _ ho => ok_ibin ho (.tmp rfl) (.int _ _) rfl) ?_
  refine q_op (dst := some 7) rfl (fun _ ho => ok_assign ho (.tmp rfl)) ?_
  refine hr_region_end ?_
  try dsimp only [HAct.put, List.set_cons_zero, List.set_cons_succ]
  try dsimp only [HAct.put, List.set_cons_zero, List.set_cons_succ]
  exact hrec0 h
def J1 (k : Nat) (rec0 : Sl → Int → Sl → Bool → Int → HS → Option ((Sl) × HS)) (y0 : Sl) (y1 : Int) (y5 : Sl) (y6 : Bool) (y7 : Int) (y27 : Bool) (S : HS) : Option ((Sl) × HS) :=
  (if y27 = true then
  (letv (HS.lit S [[(.int .i64 y1)]] 1) fun p8 =>
  (Option.bind (HS.rows (p8.2) (p8.1) 1) fun p9 =>
  (Option.bind (HS.app (p8.2) y5 p9 1) fun p10 =>
  J2 k rec0 y0 y1 (p10.1) true y7 (p10.2)))) else
  J2 k rec0 y0 y1 y5 y6 y7 S)
theorem J1_snd {k : Nat} {rec0 : Sl → Int → Sl → Bool → Int → HS → Option ((Sl) × HS)} (hrec0 : ∀ ⦃y0 : Sl⦄ ⦃y1 : Int⦄ ⦃y5 : Sl⦄ ⦃y6 : Bool⦄ ⦃y7 : Int⦄ ⦃S : HS⦄ ⦃p : (Sl) × HS⦄ ⦃g2 g3 g4 g8 g9 g10 g11 g12 g13 g14 g15 g16 g17 g18 g19 g20 g21 g22 g23 g24 g25 g26 g27 g28 g29 g30 g31 g32 g33 g34 g35 g36 g37 g38 g39 g40 g41 g42 g43 g44 g45 : HV⦄, rec0 y0 y1 y5 y6 y7 S = some p → HRun Try.prog base W0 β0 17 none [.inLoop c19, .inBlock 0, .code c37] ⟨[(Sl.hv y0), (.int .i64 y1), g2, g3, g4, (Sl.hv y5), (.bool y6), (.int .i64 y7), g8, g9, g10, g11, g12, g13, g14, g15, g16, g17, g18, g19, g20, g21, g22, g23, g24, g25, g26, g27, g28, g29, g30, g31, g32, g33, g34, g35, g36, g37, g38, g39, g40, g41, g42, g43, g44, g45], []⟩ S (fun v S1 => v = (Sl.hv p.1) ∧ S1 = p.2)) {y0 : Sl} {y1 : Int} {y5 : Sl} {y6 : Bool} {y7 : Int} {y27 : Bool} {S : HS} {p : (Sl) × HS} {g2 g3 g4 g8 g9 g10 g11 g12 g13 g14 g15 g16 g17 g18 g19 g20 g21 g22 g23 g24 g25 g26 g28 g29 g30 g31 g32 g33 g34 g35 g36 g37 g38 g39 g40 g41 g42 g43 g44 g45 : HV} (h : J1 k rec0 y0 y1 y5 y6 y7 y27 S = some p) : HRun Try.prog base W0 β0 17 none [.code c30, .code c35, .inBlock 1, .code c36, .inLoop c19, .inBlock 0, .code c37] ⟨[(Sl.hv y0), (.int .i64 y1), g2, g3, g4, (Sl.hv y5), (.bool y6), (.int .i64 y7), g8, g9, g10, g11, g12, g13, g14, g15, g16, g17, g18, g19, g20, g21, g22, g23, g24, g25, g26, (.bool y27), g28, g29, g30, g31, g32, g33, g34, g35, g36, g37, g38, g39, g40, g41, g42, g43, g44, g45], []⟩ S (fun v S1 => v = (Sl.hv p.1) ∧ S1 = p.2) := by
  unfold J1 at h
  rcases ifc h with ⟨hc7, h⟩ | ⟨hc7, h⟩
  · refine q_cond_t e30 (.tmp rfl) hc7 ?_
    refine q_seq e31 ?_
    refine q_region e32 rfl ?_
    refine q_op (dst := some 28) rfl (fun _ ho => ok_move ho (.tmp rfl)) ?_
    refine q_op (dst := some 29) rfl (fun _ ho => ok_move ho (.tmp rfl)) ?_
    obtain ⟨p8, hp8, h⟩ := leto h
    refine q_op (dst := some 30) rfl (fun _ ho => ok_buildSlice_s (xs := [(.tmp 29)]) el24 ho rfl rfl (by decide) (.cons (.tmp rfl) Evs.nil) rfl rfl hp8) ?_
    obtain ⟨p9, hp9, h⟩ := bindo h
    obtain ⟨p10, hp10, h⟩ := bindo h
    refine q_op (dst := some 31) rfl (fun _ ho => ok_append (s := y5) (s1 := (p8.1)) el24 ho rfl rfl ⟨_, tu24⟩ (.tmp rfl) (.tmp rfl) hp9 hp10) ?_
    try dsimp only [HAct.put, List.set_cons_zero, List.set_cons_succ]
    refine q_op (dst := some 5) rfl (fun _ ho => ok_assign ho (.tmp rfl)) ?_
    refine hr_region_end ?_
    try dsimp only [HAct.put, List.set_cons_zero, List.set_cons_succ]
    refine q_region e33 rfl ?_
    refine q_op (dst := some 6) rfl (fun _ ho => ok_assign ho (.bool _)) ?_
    refine hr_region_end ?_
    try dsimp only [HAct.put, List.set_cons_zero, List.set_cons_succ]
    try dsimp only [HAct.put, List.set_cons_zero, List.set_cons_succ]
    exact J2_snd hrec0 h
  · refine q_cond_f e30 (.tmp rfl) (bfalse hc7) ?_
    refine q_skipc e34 ?_
    try dsimp only [HAct.put, List.set_cons_zero, List.set_cons_succ]
    exact J2_snd hrec0 h
def J3 (k : Nat) (y5 : Sl) (S : HS) : Option ((Sl) × HS) :=
  some (y5, S)
theorem J3_snd {k : Nat}  {y5 : Sl} {S : HS} {p : (Sl) × HS} {g0 g1 g2 g3 g4 g6 g7 g8 g9 g10 g11 g12 g13 g14 g15 g16 g17 g18 g19 g20 g21 g22 g23 g24 g25 g26 g27 g28 g29 g30 g31 g32 g33 g34 g35 g36 g37 g38 g39 g40 g41 g42 g43 g44 g45 : HV} (h : J3 k y5 S = some p) : HRun Try.prog base W0 β0 17 none [.code c43] ⟨[g0, g1, g2, g3, g4, (Sl.hv y5), g6, g7, g8, g9, g10, g11, g12, g13, g14, g15, g16, g17, g18, g19, g20, g21, g22, g23, g24, g25, g26, g27, g28, g29, g30, g31, g32, g33, g34, g35, g36, g37, g38, g39, g40, g41, g42, g43, g44, g45], []⟩ S (fun v S1 => v = (Sl.hv p.1) ∧ S1 = p.2) := by
  unfold J3 at h
  refine q_seq e43 ?_
  refine q_region e44 rfl ?_
  refine q_op (dst := some 45) rfl (fun _ ho => ok_move ho (.tmp rfl)) ?_
  refine q_op (dst := some 4) rfl (fun _ ho => ok_assign ho (.tmp rfl)) ?_
  refine hr_region_end ?_
  try dsimp only [HAct.put, List.set_cons_zero, List.set_cons_succ]
  cases h
  exact q_ret e45 at_.at_ rfl (res1 rfl rfl) ⟨rfl, rfl⟩
def L0 (k : Nat) : Nat → Sl → Int → Sl → Bool → Int → HS → Option ((Sl) × HS)
  | 0, _, _, _, _, _, _ => none
  | n + 1, y0, y1, y5, y6, y7, S =>
    (if y7 < (Sl.len y0 : Int) then
    (if (!y6) = true then
    (Option.bind (HS.idx S y0 y7 1) fun p5 =>
    (Option.bind (HS.ldI S .i64 p5) fun p6 =>
    J1 k (L0 k n) y0 y1 y5 y6 y7 (decide (p6 > y1)) S)) else
    J1 k (L0 k n) y0 y1 y5 y6 y7 false S) else
    (if (!y6) = true then
    (letv (HS.lit S [[(.int .i64 y1)]] 1) fun p17 =>
    (Option.bind (HS.rows (p17.2) (p17.1) 1) fun p18 =>
    (Option.bind (HS.app (p17.2) y5 p18 1) fun p19 =>
    J3 k (p19.1) (p19.2)))) else
    J3 k y5 S))
theorem L0_snd {k : Nat}  : ∀ {n : Nat} ⦃y0 : Sl⦄ ⦃y1 : Int⦄ ⦃y5 : Sl⦄ ⦃y6 : Bool⦄ ⦃y7 : Int⦄ ⦃S : HS⦄ ⦃p : (Sl) × HS⦄ ⦃g2 g3 g4 g8 g9 g10 g11 g12 g13 g14 g15 g16 g17 g18 g19 g20 g21 g22 g23 g24 g25 g26 g27 g28 g29 g30 g31 g32 g33 g34 g35 g36 g37 g38 g39 g40 g41 g42 g43 g44 g45 : HV⦄, L0 k n y0 y1 y5 y6 y7 S = some p → HRun Try.prog base W0 β0 17 none [.inLoop c19, .inBlock 0, .code c37] ⟨[(Sl.hv y0), (.int .i64 y1), g2, g3, g4, (Sl.hv y5), (.bool y6), (.int .i64 y7), g8, g9, g10, g11, g12, g13, g14, g15, g16, g17, g18, g19, g20, g21, g22, g23, g24, g25, g26, g27, g28, g29, g30, g31, g32, g33, g34, g35, g36, g37, g38, g39, g40, g41, g42, g43, g44, g45], []⟩ S (fun v S1 => v = (Sl.hv p.1) ∧ S1 = p.2) := by
  intro n
  induction n with
  | zero => intro _ _ _ _ _ _ _ _ _ _ _ _ _ _ _ _ _ _ _ _ _ _ _ _ _ _ _ _ _ _ _ _ _ _ _ _ _ _ _ _ _ _ _ _ _ _ _ _ h; cases h
  | succ n ih =>
    intro y0 y1 y5 y6 y7 S p g2 g3 g4 g8 g9 g10 g11 g12 g13 g14 g15 g16 g17 g18 g19 g20 g21 g22 g23 g24 g25 g26 g27 g28 g29 g30 g31 g32 g33 g34 g35 g36 g37 g38 g39 g40 g41 g42 g43 g44 g45 h
    simp only [L0] at h
    refine hr_inLoop ?_
    refine q_seq e19 ?_
    refine q_seq e20 ?_
    refine q_region e21 rfl ?_
    refine q_op (dst := some 12) rfl (fun _ ho => ok_move ho (.tmp rfl)) ?_
    refine q_op (dst := some 13) rfl (fun _ ho => ok_move ho (.tmp rfl)) ?_
    refine q_op (dst := some 14) rfl (fun _ ho => ok_len_sl (q := Sl.a y0) (n := Sl.len y0) (z := Sl.cap y0) ho rfl tu24 (.tmp rfl)) ?_
    refine q_op (dst := some 15) rfl (fun _ ho => ok_ibin ho (.tmp rfl) (.tmp rfl) rfl) ?_
    refine hr_region_end ?_
    try dsimp only [HAct.put, List.set_cons_zero, List.set_cons_succ]
    rcases ifc h with ⟨hc3, h⟩ | ⟨hc3, h⟩
    · refine q_cond_t e22 (.tmp rfl) (decide_eq_true hc3) ?_
      refine q_skipc e23 ?_
      refine q_seq e25 ?_
      refine q_block e26 ?_
      refine q_seq e27 ?_
      refine q_seq e28 ?_
      refine q_region e29 rfl ?_
      refine q_op (dst := some 18) rfl (fun _ ho => ok_move ho (.tmp rfl)) ?_
      refine q_op (dst := some 19) rfl (fun _ ho => ok_not ho (.tmp rfl)) ?_
      refine q_op (dst := some 20) rfl (fun _ ho => ok_move ho (.tmp rfl)) ?_
      rcases ifc h with ⟨hc4, h⟩ | ⟨hc4, h⟩
      · refine q_op_g (t := 20) (dst := some 21) rfl rfl rfl hc4 (fun _ ho => ok_move ho (.tmp rfl)) ?_
        try dsimp only [HAct.put, List.set_cons_zero, List.set_cons_succ]
        refine q_op_g (t := 20) (dst := some 22) rfl rfl rfl hc4 (fun _ ho => ok_move ho (.tmp rfl)) ?_
        obtain ⟨p5, hp5, h⟩ := bindo h
        refine q_op_g (t := 20) (dst := some 23) rfl rfl rfl hc4 (fun _ ho => ok_indexAddr (s := y0) ho tu24 sz3 (.tmp rfl) (.tmp rfl) hp5) ?_
        obtain ⟨p6, hp6, h⟩ := bindo h
        refine q_op_g (t := 20) (dst := some 24) rfl rfl rfl hc4 (fun _ ho => ok_load_s ho sc3 (.tmp rfl) rfl (ldI_out hp6)) ?_
        refine q_op_g (t := 20) (dst := some 25) rfl rfl rfl hc4 (fun _ ho => ok_move ho (.tmp rfl)) ?_
        try dsimp only [HAct.put, List.set_cons_zero, List.set_cons_succ]
        refine q_op_g (t := 20) (dst := some 26) rfl rfl rfl hc4 (fun _ ho => ok_ibin ho (.tmp rfl) (.tmp rfl) rfl) ?_
        refine q_op (dst := some 27) rfl (fun _ ho => ok_pick_tt ho (.tmp rfl) hc4 (.tmp rfl)) ?_
        refine hr_region_end ?_
        try dsimp only [HAct.put, List.set_cons_zero, List.set_cons_succ]
        try dsimp only [HAct.put, List.set_cons_zero, List.set_cons_succ]
        exact J1_snd ih h
      · refine q_skip (dst := some 21) (t := 20) rfl rfl rfl (bfalse hc4) ?_
        try dsimp only [HAct.put, List.set_cons_zero, List.set_cons_succ]
        refine q_skip (dst := some 22) (t := 20) rfl rfl rfl (bfalse hc4) ?_
        refine q_skip (dst := some 23) (t := 20) rfl rfl rfl (bfalse hc4) ?_
        refine q_skip (dst := some 24) (t := 20) rfl rfl rfl (bfalse hc4) ?_
        refine q_skip (dst := some 25) (t := 20) rfl rfl rfl (bfalse hc4) ?_
        try dsimp only [HAct.put, List.set_cons_zero, List.set_cons_succ]
        refine q_skip (dst := some 26) (t := 20) rfl rfl rfl (bfalse hc4) ?_
        refine q_op (dst := some 27) rfl (fun _ ho => ok_pick_ff ho (.tmp rfl) (bfalse hc4) (.bool _)) ?_
        refine hr_region_end ?_
        try dsimp only [HAct.put, List.set_cons_zero, List.set_cons_succ]
        try dsimp only [HAct.put, List.set_cons_zero, List.set_cons_succ]
        exact J1_snd ih h
    · refine q_cond_f e22 (.tmp rfl) (decide_eq_false hc3) ?_
      refine q_exit e24 rfl ?_
      refine q_seq e37 ?_
      refine q_seq e38 ?_
      refine q_region e39 rfl ?_
      refine q_op (dst := some 39) rfl (fun _ ho => ok_move ho (.tmp rfl)) ?_
      refine q_op (dst := some 40) rfl (fun _ ho => ok_not ho (.tmp rfl)) ?_
      refine hr_region_end ?_
      try dsimp only [HAct.put, List.set_cons_zero, List.set_cons_succ]
      rcases ifc h with ⟨hc16, h⟩ | ⟨hc16, h⟩
      · refine q_cond_t e40 (.tmp rfl) hc16 ?_
        refine q_region e41 rfl ?_
        refine q_op (dst := some 41) rfl (fun _ ho => ok_move ho (.tmp rfl)) ?_
        refine q_op (dst := some 42) rfl (fun _ ho => ok_move ho (.tmp rfl)) ?_
        obtain ⟨p17, hp17, h⟩ := leto h
        refine q_op (dst := some 43) rfl (fun _ ho => ok_buildSlice_s (xs := [(.tmp 42)]) el24 ho rfl rfl (by decide) (.cons (.tmp rfl) Evs.nil) rfl rfl hp17) ?_
        obtain ⟨p18, hp18, h⟩ := bindo h
        obtain ⟨p19, hp19, h⟩ := bindo h
        refine q_op (dst := some 44) rfl (fun _ ho => ok_append (s := y5) (s1 := (p17.1)) el24 ho rfl rfl ⟨_, tu24⟩ (.tmp rfl) (.tmp rfl) hp18 hp19) ?_
        try dsimp only [HAct.put, List.set_cons_zero, List.set_cons_succ]
        refine q_op (dst := some 5) rfl (fun _ ho => ok_assign ho (.tmp rfl)) ?_
        refine hr_region_end ?_
        try dsimp only [HAct.put, List.set_cons_zero, List.set_cons_succ]
        try dsimp only [HAct.put, List.set_cons_zero, List.set_cons_succ]
        exact J3_snd  h
      · refine q_cond_f e40 (.tmp rfl) (bfalse hc16) ?_
        refine q_skipc e42 ?_
        try dsimp only [HAct.put, List.set_cons_zero, List.set_cons_succ]
        exact J3_snd  h
def f (k : Nat) (x0 : Sl) (x1 : Int) (S : HS) : Option ((Sl) × HS) :=
  (Option.bind (rollcallref10_Has.f k x0 x1 S) fun p1 =>
  (if p1.1 = true then
  some (x0, p1.2) else
  L0 k k x0 x1 Sl.nil false 0 p1.2))
theorem snd {k : Nat} {x0 : Sl} {x1 : Int} {S : HS}  {p : (Sl) × HS} (h : f k x0 x1 S = some p) : HCall Try.prog base W0 β0 17 [(Sl.hv x0), (.int .i64 x1)] S (fun v S1 => v = (Sl.hv p.1) ∧ S1 = p.2) := by
  unfold f at h
  refine HCall.of_run at_.at_ body ?_
  show HRun Try.prog base W0 β0 17 none [.code c0] ⟨[(Sl.hv x0), (.int .i64 x1), .tup [], .tup [], .tup [], .tup [], .tup [], .tup [], .tup [], .tup [], .tup [], .tup [], .tup [], .tup [], .tup [], .tup [], .tup [], .tup [], .tup [], .tup [], .tup [], .tup [], .tup [], .tup [], .tup [], .tup [], .tup [], .tup [], .tup [], .tup [], .tup [], .tup [], .tup [], .tup [], .tup [], .tup [], .tup [], .tup [], .tup [], .tup [], .tup [], .tup [], .tup [], .tup [], .tup [], .tup []], []⟩ S _
  refine q_seq e0 ?_
  refine q_region e1 rfl ?_
  refine q_op (dst := some 4) rfl (fun _ ho => ok_assign ho (.const fun _ => .slNil none)) ?_
  refine hr_region_end ?_
  try dsimp only [HAct.put, List.set_cons_zero, List.set_cons_succ]
  refine q_seq e2 ?_
  refine q_seq e3 ?_
  refine q_region e4 rfl ?_
  refine q_op (dst := some 8) rfl (fun _ ho => ok_move ho (.tmp rfl)) ?_
  refine q_op (dst := some 9) rfl (fun _ ho => ok_move ho (.tmp rfl)) ?_
  obtain ⟨p1, hp1, h⟩ := bindo h
  refine q_call (dst := some 10) rfl (.func _) (.cons (.tmp rfl) (.cons (.tmp rfl) Evs.nil)) (HInv.static rollcallref10_Has.at_ rollcallref10_Has.body (rollcallref10_Has.snd  hp1)) ?_
  rintro _ _ ⟨rfl, rfl⟩
  refine hr_region_end ?_
  try dsimp only [HAct.put, List.set_cons_zero, List.set_cons_succ]
  rcases ifc h with ⟨hc2, h⟩ | ⟨hc2, h⟩
  · refine q_cond_t e5 (.tmp rfl) hc2 ?_
    refine q_seq e6 ?_
    refine q_region e7 rfl ?_
    refine q_op (dst := some 11) rfl (fun _ ho => ok_move ho (.tmp rfl)) ?_
    refine q_op (dst := some 4) rfl (fun _ ho => ok_assign ho (.tmp rfl)) ?_
    refine hr_region_end ?_
    try dsimp only [HAct.put, List.set_cons_zero, List.set_cons_succ]
    cases h
    exact q_ret e8 at_.at_ rfl (res1 rfl rfl) ⟨rfl, rfl⟩
  · refine q_cond_f e5 (.tmp rfl) (bfalse hc2) ?_
    refine q_skipc e9 ?_
    refine q_seq e10 ?_
    refine q_region e11 rfl ?_
    refine q_op (dst := some 5) rfl (fun _ ho => ok_assign ho (.const fun _ => .slNil none)) ?_
    refine hr_region_end ?_
    try dsimp only [HAct.put, List.set_cons_zero, List.set_cons_succ]
    refine q_seq e12 ?_
    refine q_region e13 rfl ?_
    refine q_op (dst := some 6) rfl (fun _ ho => ok_assign ho (.bool _)) ?_
    refine hr_region_end ?_
    try dsimp only [HAct.put, List.set_cons_zero, List.set_cons_succ]
    refine q_seq e14 ?_
    refine q_seq e15 ?_
    refine q_region e16 rfl ?_
    refine q_op (dst := some 7) rfl (fun _ ho => ok_assign ho (.int _ _)) ?_
    refine hr_region_end ?_
    try dsimp only [HAct.put, List.set_cons_zero, List.set_cons_succ]
    refine q_block e17 ?_
    refine q_loop e18 ?_
    try dsimp only [HAct.put, List.set_cons_zero, List.set_cons_succ]
    exact L0_snd  h
end
end rollcallref10_Add
namespace rollcallref10_All
abbrev id : Nat := 11
theorem at_ : FnAt Try.prog 11 Try.f11 := ⟨Try.func11, by kernel_rfl⟩
noncomputable def c0 : Code := (Try.f11.body).getD .skip
noncomputable def c1 : Code := match c0 with | .seq x _ => x | _ => .skip
noncomputable def c2 : Code := match c0 with | .seq _ x => x | _ => .skip
noncomputable def c3 : Code := match c2 with | .seq x _ => x | _ => .skip
noncomputable def c4 : Code := match c2 with | .seq _ x => x | _ => .skip
noncomputable def c5 : Code := match c4 with | .seq x _ => x | _ => .skip
noncomputable def c6 : Code := match c5 with | .seq x _ => x | _ => .skip
noncomputable def c7 : Code := match c5 with | .seq _ x => x | _ => .skip
noncomputable def c8 : Code := match c7 with | .block _ x => x | _ => .skip
noncomputable def c9 : Code := match c8 with | .loop x => x | _ => .skip
noncomputable def c10 : Code := match c9 with | .seq x _ => x | _ => .skip
noncomputable def c11 : Code := match c10 with | .seq x _ => x | _ => .skip
noncomputable def c12 : Code := match c10 with | .seq _ x => x | _ => .skip
noncomputable def c13 : Code := match c12 with | .cond _ x _ => x | _ => .skip
noncomputable def c14 : Code := match c12 with | .cond _ _ x => x | _ => .skip
noncomputable def c15 : Code := match c9 with | .seq _ x => x | _ => .skip
noncomputable def c16 : Code := match c15 with | .seq x _ => x | _ => .skip
noncomputable def c17 : Code := match c16 with | .block _ x => x | _ => .skip
noncomputable def c18 : Code := match c15 with | .seq _ x => x | _ => .skip
noncomputable def c19 : Code := match c4 with | .seq _ x => x | _ => .skip
noncomputable def c20 : Code := match c19 with | .seq x _ => x | _ => .skip
noncomputable def c21 : Code := match c19 with | .seq _ x => x | _ => .skip
theorem e0 : c0 = .seq c1 c2 := by kernel_rfl
noncomputable def r1 : Array Oper := match c1 with | .region _ x _ => x | _ => #[]
theorem e1 : c1 = .region 0 r1 false := by kernel_rfl
theorem e2 : c2 = .seq c3 c4 := by kernel_rfl
noncomputable def r3 : Array Oper := match c3 with | .region _ x _ => x | _ => #[]
theorem e3 : c3 = .region 1 r3 false := by kernel_rfl
theorem e4 : c4 = .seq c5 c19 := by kernel_rfl
theorem e5 : c5 = .seq c6 c7 := by kernel_rfl
noncomputable def r6 : Array Oper := match c6 with | .region _ x _ => x | _ => #[]
theorem e6 : c6 = .region 2 r6 false := by kernel_rfl
theorem e7 : c7 = .block 0 c8 := by kernel_rfl
theorem e8 : c8 = .loop c9 := by kernel_rfl
theorem e9 : c9 = .seq c10 c15 := by kernel_rfl
theorem e10 : c10 = .seq c11 c12 := by kernel_rfl
noncomputable def r11 : Array Oper := match c11 with | .region _ x _ => x | _ => #[]
theorem e11 : c11 = .region 3 r11 false := by kernel_rfl
theorem e12 : c12 = .cond (.tmp 8) c13 c14 := by kernel_rfl
theorem e13 : c13 = .skip := by kernel_rfl
theorem e14 : c14 = .exit 0 := by kernel_rfl
theorem e15 : c15 = .seq c16 c18 := by kernel_rfl
theorem e16 : c16 = .block 1 c17 := by kernel_rfl
noncomputable def r17 : Array Oper := match c17 with | .region _ x _ => x | _ => #[]
theorem e17 : c17 = .region 5 r17 false := by kernel_rfl
noncomputable def r18 : Array Oper := match c18 with | .region _ x _ => x | _ => #[]
theorem e18 : c18 = .region 4 r18 false := by kernel_rfl
theorem e19 : c19 = .seq c20 c21 := by kernel_rfl
noncomputable def r20 : Array Oper := match c20 with | .region _ x _ => x | _ => #[]
theorem e20 : c20 = .region 6 r20 false := by kernel_rfl
theorem e21 : c21 = .ret := by kernel_rfl
theorem body : Try.f11.body = some c0 := by kernel_rfl
section
variable {base : Nat} {W0 : World} {β0 : Bt}
def L0 (k : Nat) : Nat → Sl → Sl → Int → HS → Option ((Sl) × HS)
  | 0, _, _, _, _ => none
  | n + 1, y0, y3, y4, S =>
    (if y4 < (Sl.len y0 : Int) then
    (Option.bind (HS.idx S y0 y4 1) fun p2 =>
    (Option.bind (HS.ldI S .i64 p2) fun p3 =>
    (Option.bind (rollcallref10_Add.f k y3 p3 S) fun p4 =>
    (L0 k n) y0 p4.1 (w64 (y4 + 1)) p4.2))) else
    some (y3, S))
theorem L0_snd {k : Nat}  : ∀ {n : Nat} ⦃y0 : Sl⦄ ⦃y3 : Sl⦄ ⦃y4 : Int⦄ ⦃S : HS⦄ ⦃p : (Sl) × HS⦄ ⦃g1 g2 g5 g6 g7 g8 g9 g10 g11 g12 g13 g14 g15 g16 g17 : HV⦄, L0 k n y0 y3 y4 S = some p → HRun Try.prog base W0 β0 11 none [.inLoop c9, .inBlock 0, .code c19] ⟨[(Sl.hv y0), g1, g2, (Sl.hv y3), (.int .i64 y4), g5, g6, g7, g8, g9, g10, g11, g12, g13, g14, g15, g16, g17], []⟩ S (fun v S1 => v = (Sl.hv p.1) ∧ S1 = p.2) := by
  intro n
  induction n with
  | zero => intro _ _ _ _ _ _ _ _ _ _ _ _ _ _ _ _ _ _ _ _ h; cases h
  | succ n ih =>
    intro y0 y3 y4 S p g1 g2 g5 g6 g7 g8 g9 g10 g11 g12 g13 g14 g15 g16 g17 h
    simp only [L0] at h
    refine hr_inLoop ?_
    refine q_seq e9 ?_
    refine q_seq e10 ?_
    refine q_region e11 rfl ?_
    refine q_op (dst := some 5) rfl (fun _ ho => ok_move ho (.tmp rfl)) ?_
    refine q_op (dst := some 6) rfl (fun _ ho => ok_move ho (.tmp rfl)) ?_
    refine q_op (dst := some 7) rfl (fun _ ho => ok_len_sl (q := Sl.a y0) (n := Sl.len y0) (z := Sl.cap y0) ho rfl tu24 (.tmp rfl)) ?_
    refine q_op (dst := some 8) rfl (fun _ ho => ok_ibin ho (.tmp rfl) (.tmp rfl) rfl) ?_
    refine hr_region_end ?_
    try dsimp only [HAct.put, List.set_cons_zero, List.set_cons_succ]
    rcases ifc h with ⟨hc1, h⟩ | ⟨hc1, h⟩
    · refine q_cond_t e12 (.tmp rfl) (decide_eq_true hc1) ?_
      refine q_skipc e13 ?_
      refine q_seq e15 ?_
      refine q_block e16 ?_
      refine q_region e17 rfl ?_
      refine q_op (dst := some 11) rfl (fun _ ho => ok_move ho (.tmp rfl)) ?_
      refine q_op (dst := some 12) rfl (fun _ ho => ok_move ho (.tmp rfl)) ?_
      refine q_op (dst := some 13) rfl (fun _ ho => ok_move ho (.tmp rfl)) ?_
      obtain ⟨p2, hp2, h⟩ := bindo h
      refine q_op (dst := some 14) rfl (fun _ ho => ok_indexAddr (s := y0) ho tu24 sz3 (.tmp rfl) (.tmp rfl) hp2) ?_
      try dsimp only [HAct.put, List.set_cons_zero, List.set_cons_succ]
      obtain ⟨p3, hp3, h⟩ := bindo h
      refine q_op (dst := some 15) rfl (fun _ ho => ok_load_s ho sc3 (.tmp rfl) rfl (ldI_out hp3)) ?_
      obtain ⟨p4, hp4, h⟩ := bindo h
      refine q_call (dst := some 16) rfl (.func _) (.cons (.tmp rfl) (.cons (.tmp rfl) Evs.nil)) (HInv.static rollcallref10_Add.at_ rollcallref10_Add.body (rollcallref10_Add.snd  hp4)) ?_
      rintro _ _ ⟨rfl, rfl⟩
      refine q_op (dst := some 3) rfl (fun _ ho => ok_assign ho (.tmp rfl)) ?_
      refine hr_region_end ?_
      try dsimp only [HAct.put, List.set_cons_zero, List.set_cons_succ]
      refine hr_inBlock ?_
      refine q_region e18 rfl ?_
      refine q_op (dst := some 9) rfl (fun _ ho => ok_move ho (.tmp rfl)) ?_
      refine q_op (dst := some 10) rfl (fun _ ho => ok_ibin ho (.tmp rfl) (.int _ _) rfl) ?_
      refine q_op (dst := some 4) rfl (fun _ ho => ok_assign ho (.tmp rfl)) ?_
      refine hr_region_end ?_
      try dsimp only [HAct.put, List.set_cons_zero, List.set_cons_succ]
      try dsimp only [HAct.put, List.set_cons_zero, List.set_cons_succ]
      exact ih h
    · refine q_cond_f e12 (.tmp rfl) (decide_eq_false hc1) ?_
      refine q_exit e14 rfl ?_
      refine q_seq e19 ?_
      refine q_region e20 rfl ?_
      refine q_op (dst := some 17) rfl (fun _ ho => ok_move ho (.tmp rfl)) ?_
      refine q_op (dst := some 2) rfl (fun _ ho => ok_assign ho (.tmp rfl)) ?_
      refine hr_region_end ?_
      try dsimp only [HAct.put, List.set_cons_zero, List.set_cons_succ]
      cases h
      exact q_ret e21 at_.at_ rfl (res1 rfl rfl) ⟨rfl, rfl⟩
def f (k : Nat) (x0 : Sl) (S : HS) : Option ((Sl) × HS) :=
  L0 k k x0 Sl.nil 0 S
theorem snd {k : Nat} {x0 : Sl} {S : HS}  {p : (Sl) × HS} (h : f k x0 S = some p) : HCall Try.prog base W0 β0 11 [(Sl.hv x0)] S (fun v S1 => v = (Sl.hv p.1) ∧ S1 = p.2) := by
  unfold f at h
  refine HCall.of_run at_.at_ body ?_
  show HRun Try.prog base W0 β0 11 none [.code c0] ⟨[(Sl.hv x0), .tup [], .tup [], .tup [], .tup [], .tup [], .tup [], .tup [], .tup [], .tup [], .tup [], .tup [], .tup [], .tup [], .tup [], .tup [], .tup [], .tup []], []⟩ S _
  refine q_seq e0 ?_
  refine q_region e1 rfl ?_
  refine q_op (dst := some 2) rfl (fun _ ho => ok_assign ho (.const fun _ => .slNil none)) ?_
  refine hr_region_end ?_
  try dsimp only [HAct.put, List.set_cons_zero, List.set_cons_succ]
  refine q_seq e2 ?_
  refine q_region e3 rfl ?_
  refine q_op (dst := some 3) rfl (fun _ ho => ok_assign ho (.const fun _ => .slNil none)) ?_
  refine hr_region_end ?_
  try dsimp only [HAct.put, List.set_cons_zero, List.set_cons_succ]
  refine q_seq e4 ?_
  refine q_seq e5 ?_
  refine q_region e6 rfl ?_
  refine q_op (dst := some 4) rfl (fun _ ho => ok_assign ho (.int _ _)) ?_
  refine hr_region_end ?_
  try dsimp only [HAct.put, List.set_cons_zero, List.set_cons_succ]
  refine q_block e7 ?_
  refine q_loop e8 ?_
  try dsimp only [HAct.put, List.set_cons_zero, List.set_cons_succ]
  exact L0_snd  h
end
end rollcallref10_All
namespace rollcallref10_Remove
abbrev id : Nat := 13
theorem at_ : FnAt Try.prog 13 Try.f13 := ⟨Try.func13, by kernel_rfl⟩
noncomputable def c0 : Code := (Try.f13.body).getD .skip
noncomputable def c1 : Code := match c0 with | .seq x _ => x | _ => .skip
noncomputable def c2 : Code := match c0 with | .seq _ x => x | _ => .skip
noncomputable def c3 : Code := match c2 with | .seq x _ => x | _ => .skip
noncomputable def c4 : Code := match c2 with | .seq _ x => x | _ => .skip
noncomputable def c5 : Code := match c4 with | .seq x _ => x | _ => .skip
noncomputable def c6 : Code := match c5 with | .seq x _ => x | _ => .skip
noncomputable def c7 : Code := match c5 with | .seq _ x => x | _ => .skip
noncomputable def c8 : Code := match c7 with | .block _ x => x | _ => .skip
noncomputable def c9 : Code := match c8 with | .loop x => x | _ => .skip
noncomputable def c10 : Code := match c9 with | .seq x _ => x | _ => .skip
noncomputable def c11 : Code := match c10 with | .seq x _ => x | _ => .skip
noncomputable def c12 : Code := match c10 with | .seq _ x => x | _ => .skip
noncomputable def c13 : Code := match c12 with | .cond _ x _ => x | _ => .skip
noncomputable def c14 : Code := match c12 with | .cond _ _ x => x | _ => .skip
noncomputable def c15 : Code := match c9 with | .seq _ x => x | _ => .skip
noncomputable def c16 : Code := match c15 with | .seq x _ => x | _ => .skip
noncomputable def c17 : Code := match c16 with | .block _ x => x | _ => .skip
noncomputable def c18 : Code := match c17 with | .seq x _ => x | _ => .skip
noncomputable def c19 : Code := match c17 with | .seq _ x => x | _ => .skip
noncomputable def c20 : Code := match c19 with | .cond _ x _ => x | _ => .skip
noncomputable def c21 : Code := match c19 with | .cond _ _ x => x | _ => .skip
noncomputable def c22 : Code := match c15 with | .seq _ x => x | _ => .skip
noncomputable def c23 : Code := match c4 with | .seq _ x => x | _ => .skip
noncomputable def c24 : Code := match c23 with | .seq x _ => x | _ => .skip
noncomputable def c25 : Code := match c23 with | .seq _ x => x | _ => .skip
theorem e0 : c0 = .seq c1 c2 := by kernel_rfl
noncomputable def r1 : Array Oper := match c1 with | .region _ x _ => x | _ => #[]
theorem e1 : c1 = .region 0 r1 false := by kernel_rfl
theorem e2 : c2 = .seq c3 c4 := by kernel_rfl
noncomputable def r3 : Array Oper := match c3 with | .region _ x _ => x | _ => #[]
theorem e3 : c3 = .region 1 r3 false := by kernel_rfl
theorem e4 : c4 = .seq c5 c23 := by kernel_rfl
theorem e5 : c5 = .seq c6 c7 := by kernel_rfl
noncomputable def r6 : Array Oper := match c6 with | .region _ x _ => x | _ => #[]
theorem e6 : c6 = .region 2 r6 false := by kernel_rfl
theorem e7 : c7 = .block 0 c8 := by kernel_rfl
theorem e8 : c8 = .loop c9 := by kernel_rfl
theorem e9 : c9 = .seq c10 c15 := by kernel_rfl
theorem e10 : c10 = .seq c11 c12 := by kernel_rfl
noncomputable def r11 : Array Oper := match c11 with | .region _ x _ => x | _ => #[]
theorem e11 : c11 = .region 3 r11 false := by kernel_rfl
theorem e12 : c12 = .cond (.tmp 10) c13 c14 := by kernel_rfl
theorem e13 : c13 = .skip := by kernel_rfl
theorem e14 : c14 = .exit 0 := by kernel_rfl
theorem e15 : c15 = .seq c16 c22 := by kernel_rfl
theorem e16 : c16 = .block 1 c17 := by kernel_rfl
theorem e17 : c17 = .seq c18 c19 := by kernel_rfl
noncomputable def r18 : Array Oper := match c18 with | .region _ x _ => x | _ => #[]
theorem e18 : c18 = .region 5 r18 false := by kernel_rfl
theorem e19 : c19 = .cond (.tmp 18) c20 c21 := by kernel_rfl
noncomputable def r20 : Array Oper := match c20 with | .region _ x _ => x | _ => #[]
theorem e20 : c20 = .region 6 r20 false := by kernel_rfl
theorem e21 : c21 = .skip := by kernel_rfl
noncomputable def r22 : Array Oper := match c22 with | .region _ x _ => x | _ => #[]
theorem e22 : c22 = .region 4 r22 false := by kernel_rfl
theorem e23 : c23 = .seq c24 c25 := by kernel_rfl
noncomputable def r24 : Array Oper := match c24 with | .region _ x _ => x | _ => #[]
theorem e24 : c24 = .region 7 r24 false := by kernel_rfl
theorem e25 : c25 = .ret := by kernel_rfl
theorem body : Try.f13.body = some c0 := by kernel_rfl
section
variable {base : Nat} {W0 : World} {β0 : Bt}
def J1 (k : Nat) (rec0 : Sl → Int → Sl → Int → HS → Option ((Sl) × HS)) (y0 : Sl) (y1 : Int) (y5 : Sl) (y6 : Int) (S : HS) : Option ((Sl) × HS) :=
  rec0 y0 y1 y5 (w64 (y6 + 1)) S
theorem J1_snd {k : Nat} {rec0 : Sl → Int → Sl → Int → HS → Option ((Sl) × HS)} (hrec0 : ∀ ⦃y0 : Sl⦄ ⦃y1 : Int⦄ ⦃y5 : Sl⦄ ⦃y6 : Int⦄ ⦃S : HS⦄ ⦃p : (Sl) × HS⦄ ⦃g2 g3 g4 g7 g8 g9 g10 g11 g12 g13 g14 g15 g16 g17 g18 g19 g20 g21 g22 g23 g24 g25 g26 : HV⦄, rec0 y0 y1 y5 y6 S = some p → HRun Try.prog base W0 β0 13 none [.inLoop c9, .inBlock 0, .code c23] ⟨[(Sl.hv y0), (.int .i64 y1), g2, g3, g4, (Sl.hv y5), (.int .i64 y6), g7, g8, g9, g10, g11, g12, g13, g14, g15, g16, g17, g18, g19, g20, g21, g22, g23, g24, g25, g26], []⟩ S (fun v S1 => v = (Sl.hv p.1) ∧ S1 = p.2)) {y0 : Sl} {y1 : Int} {y5 : Sl} {y6 : Int} {S : HS} {p : (Sl) × HS} {g2 g3 g4 g7 g8 g9 g10 g11 g12 g13 g14 g15 g16 g17 g18 g19 g20 g21 g22 g23 g24 g25 g26 : HV} (h : J1 k rec0 y0 y1 y5 y6 S = some p) : HRun Try.prog base W0 β0 13 none [.code c22, .inLoop c9, .inBlock 0, .code c23] ⟨[(Sl.hv y0), (.int .i64 y1), g2, g3, g4, (Sl.hv y5), (.int .i64 y6), g7, g8, g9, g10, g11, g12, g13, g14, g15, g16, g17, g18, g19, g20, g21, g22, g23, g24, g25, g26], []⟩ S (fun v S1 => v = (Sl.hv p.1) ∧ S1 = p.2) := by
  unfold J1 at h
  refine q_region e22 rfl ?_
  refine q_op (dst := some 11) rfl (fun _ ho => ok_move ho (.tmp rfl)) ?_
  refine q_op (dst := some 12) rfl (fun _ ho => ok_ibin ho (.tmp rfl) (.int _ _) rfl) ?_
  refine q_op (dst := some 6) rfl (fun _ ho => ok_assign ho (.tmp rfl)) ?_
  refine hr_region_end ?_
  try dsimp only [HAct.put, List.set_cons_zero, List.set_cons_succ]
  try dsimp only [HAct.put, List.set_cons_zero, List.set_cons_succ]
  exact hrec0 h
def L0 (k : Nat) : Nat → Sl → Int → Sl → Int → HS → Option ((Sl) × HS)
  | 0, _, _, _, _, _ => none
  | n + 1, y0, y1, y5, y6, S =>
    (if y6 < (Sl.len y0 : Int) then
    (Option.bind (HS.idx S y0 y6 1) fun p2 =>
    (Option.bind (HS.ldI S .i64 p2) fun p3 =>
    (if (!decide (p3 = y1)) = true then
    (Option.bind (HS.idx S y0 y6 1) fun p5 =>
    (Option.bind (HS.ldI S .i64 p5) fun p6 =>
    (letv (HS.lit S [[(.int .i64 p6)]] 1) fun p7 =>
    (Option.bind (HS.rows (p7.2) (p7.1) 1) fun p8 =>
    (Option.bind (HS.app (p7.2) y5 p8 1) fun p9 =>
    J1 k (L0 k n) y0 y1 (p9.1) y6 (p9.2)))))) else
    J1 k (L0 k n) y0 y1 y5 y6 S))) else
    some (y5, S))
theorem L0_snd {k : Nat}  : ∀ {n : Nat} ⦃y0 : Sl⦄ ⦃y1 : Int⦄ ⦃y5 : Sl⦄ ⦃y6 : Int⦄ ⦃S : HS⦄ ⦃p : (Sl) × HS⦄ ⦃g2 g3 g4 g7 g8 g9 g10 g11 g12 g13 g14 g15 g16 g17 g18 g19 g20 g21 g22 g23 g24 g25 g26 : HV⦄, L0 k n y0 y1 y5 y6 S = some p → HRun Try.prog base W0 β0 13 none [.inLoop c9, .inBlock 0, .code c23] ⟨[(Sl.hv y0), (.int .i64 y1), g2, g3, g4, (Sl.hv y5), (.int .i64 y6), g7, g8, g9, g10, g11, g12, g13, g14, g15, g16, g17, g18, g19, g20, g21, g22, g23, g24, g25, g26], []⟩ S (fun v S1 => v = (Sl.hv p.1) ∧ S1 = p.2) := by
  intro n
  induction n with
  | zero => intro _ _ _ _ _ _ _ _ _ _ _ _ _ _ _ _ _ _ _ _ _ _ _ _ _ _ _ _ _ h; cases h
  | succ n ih =>
    intro y0 y1 y5 y6 S p g2 g3 g4 g7 g8 g9 g10 g11 g12 g13 g14 g15 g16 g17 g18 g19 g20 g21 g22 g23 g24 g25 g26 h
    simp only [L0] at h
    refine hr_inLoop ?_
    refine q_seq e9 ?_
    refine q_seq e10 ?_
    refine q_region e11 rfl ?_
    refine q_op (dst := some 7) rfl (fun _ ho => ok_move ho (.tmp rfl)) ?_
    refine q_op (dst := some 8) rfl (fun _ ho => ok_move ho (.tmp rfl)) ?_
    refine q_op (dst := some 9) rfl (fun _ ho => ok_len_sl (q := Sl.a y0) (n := Sl.len y0) (z := Sl.cap y0) ho rfl tu24 (.tmp rfl)) ?_
    refine q_op (dst := some 10) rfl (fun _ ho => ok_ibin ho (.tmp rfl) (.tmp rfl) rfl) ?_
    refine hr_region_end ?_
    try dsimp only [HAct.put, List.set_cons_zero, List.set_cons_succ]
    rcases ifc h with ⟨hc1, h⟩ | ⟨hc1, h⟩
    · refine q_cond_t e12 (.tmp rfl) (decide_eq_true hc1) ?_
      refine q_skipc e13 ?_
      refine q_seq e15 ?_
      refine q_block e16 ?_
      refine q_seq e17 ?_
      refine q_region e18 rfl ?_
      refine q_op (dst := some 13) rfl (fun _ ho => ok_move ho (.tmp rfl)) ?_
      refine q_op (dst := some 14) rfl (fun _ ho => ok_move ho (.tmp rfl)) ?_
      obtain ⟨p2, hp2, h⟩ := bindo h
      refine q_op (dst := some 15) rfl (fun _ ho => ok_indexAddr (s := y0) ho tu24 sz3 (.tmp rfl) (.tmp rfl) hp2) ?_
      obtain ⟨p3, hp3, h⟩ := bindo h
      refine q_op (dst := some 16) rfl (fun _ ho => ok_load_s ho sc3 (.tmp rfl) rfl (ldI_out hp3)) ?_
      try dsimp only [HAct.put, List.set_cons_zero, List.set_cons_succ]
      refine q_op (dst := some 17) rfl (fun _ ho => ok_move ho (.tmp rfl)) ?_
      refine q_op (dst := some 18) rfl (fun _ ho => ok_ibin ho (.tmp rfl) (.tmp rfl) rfl) ?_
      refine hr_region_end ?_
      try dsimp only [HAct.put, List.set_cons_zero, List.set_cons_succ]
      rcases ifc h with ⟨hc4, h⟩ | ⟨hc4, h⟩
      · refine q_cond_t e19 (.tmp rfl) hc4 ?_
        refine q_region e20 rfl ?_
        refine q_op (dst := some 19) rfl (fun _ ho => ok_move ho (.tmp rfl)) ?_
        refine q_op (dst := some 20) rfl (fun _ ho => ok_move ho (.tmp rfl)) ?_
        refine q_op (dst := some 21) rfl (fun _ ho => ok_move ho (.tmp rfl)) ?_
        obtain ⟨p5, hp5, h⟩ := bindo h
        refine q_op (dst := some 22) rfl (fun _ ho => ok_indexAddr (s := y0) ho tu24 sz3 (.tmp rfl) (.tmp rfl) hp5) ?_
        try dsimp only [HAct.put, List.set_cons_zero, List.set_cons_succ]
        obtain ⟨p6, hp6, h⟩ := bindo h
        refine q_op (dst := some 23) rfl (fun _ ho => ok_load_s ho sc3 (.tmp rfl) rfl (ldI_out hp6)) ?_
        obtain ⟨p7, hp7, h⟩ := leto h
        refine q_op (dst := some 24) rfl (fun _ ho => ok_buildSlice_s (xs := [(.tmp 23)]) el24 ho rfl rfl (by decide) (.cons (.tmp rfl) Evs.nil) rfl rfl hp7) ?_
        obtain ⟨p8, hp8, h⟩ := bindo h
        obtain ⟨p9, hp9, h⟩ := bindo h
        refine q_op (dst := some 25) rfl (fun _ ho => ok_append (s := y5) (s1 := (p7.1)) el24 ho rfl rfl ⟨_, tu24⟩ (.tmp rfl) (.tmp rfl) hp8 hp9) ?_
        refine q_op (dst := some 5) rfl (fun _ ho => ok_assign ho (.tmp rfl)) ?_
        refine hr_region_end ?_
        try dsimp only [HAct.put, List.set_cons_zero, List.set_cons_succ]
        refine hr_inBlock ?_
        try dsimp only [HAct.put, List.set_cons_zero, List.set_cons_succ]
        exact J1_snd ih h
      · refine q_cond_f e19 (.tmp rfl) (bfalse hc4) ?_
        refine q_skipc e21 ?_
        refine hr_inBlock ?_
        try dsimp only [HAct.put, List.set_cons_zero, List.set_cons_succ]
        exact J1_snd ih h
    · refine q_cond_f e12 (.tmp rfl) (decide_eq_false hc1) ?_
      refine q_exit e14 rfl ?_
      refine q_seq e23 ?_
      refine q_region e24 rfl ?_
      refine q_op (dst := some 26) rfl (fun _ ho => ok_move ho (.tmp rfl)) ?_
      refine q_op (dst := some 4) rfl (fun _ ho => ok_assign ho (.tmp rfl)) ?_
      refine hr_region_end ?_
      try dsimp only [HAct.put, List.set_cons_zero, List.set_cons_succ]
      cases h
      exact q_ret e25 at_.at_ rfl (res1 rfl rfl) ⟨rfl, rfl⟩
def f (k : Nat) (x0 : Sl) (x1 : Int) (S : HS) : Option ((Sl) × HS) :=
  L0 k k x0 x1 Sl.nil 0 S
theorem snd {k : Nat} {x0 : Sl} {x1 : Int} {S : HS}  {p : (Sl) × HS} (h : f k x0 x1 S = some p) : HCall Try.prog base W0 β0 13 [(Sl.hv x0), (.int .i64 x1)] S (fun v S1 => v = (Sl.hv p.1) ∧ S1 = p.2) := by
  unfold f at h
  refine HCall.of_run at_.at_ body ?_
  show HRun Try.prog base W0 β0 13 none [.code c0] ⟨[(Sl.hv x0), (.int .i64 x1), .tup [], .tup [], .tup [], .tup [], .tup [], .tup [], .tup [], .tup [], .tup [], .tup [], .tup [], .tup [], .tup [], .tup [], .tup [], .tup [], .tup [], .tup [], .tup [], .tup [], .tup [], .tup [], .tup [], .tup [], .tup []], []⟩ S _
  refine q_seq e0 ?_
  refine q_region e1 rfl ?_
  refine q_op (dst := some 4) rfl (fun _ ho => ok_assign ho (.const fun _ => .slNil none)) ?_
  refine hr_region_end ?_
  try dsimp only [HAct.put, List.set_cons_zero, List.set_cons_succ]
  refine q_seq e2 ?_
  refine q_region e3 rfl ?_
  refine q_op (dst := some 5) rfl (fun _ ho => ok_assign ho (.const fun _ => .slNil none)) ?_
  refine hr_region_end ?_
  try dsimp only [HAct.put, List.set_cons_zero, List.set_cons_succ]
  refine q_seq e4 ?_
  refine q_seq e5 ?_
  refine q_region e6 rfl ?_
  refine q_op (dst := some 6) rfl (fun _ ho => ok_assign ho (.int _ _)) ?_
  refine hr_region_end ?_
  try dsimp only [HAct.put, List.set_cons_zero, List.set_cons_succ]
  refine q_block e7 ?_
  refine q_loop e8 ?_
  try dsimp only [HAct.put, List.set_cons_zero, List.set_cons_succ]
  exact L0_snd  h
end
end rollcallref10_Remove
namespace slices_Values_int_int_1
abbrev id : Nat := 35
theorem at_ : FnAt Try.prog 35 Try.f35 := ⟨Try.func35, by kernel_rfl⟩
noncomputable def c0 : Code := (Try.f35.body).getD .skip
noncomputable def c1 : Code := match c0 with | .seq x _ => x | _ => .skip
noncomputable def c2 : Code := match c0 with | .seq _ x => x | _ => .skip
noncomputable def c3 : Code := match c2 with | .block _ x => x | _ => .skip
noncomputable def c4 : Code := match c3 with | .loop x => x | _ => .skip
noncomputable def c5 : Code := match c4 with | .seq x _ => x | _ => .skip
noncomputable def c6 : Code := match c4 with | .seq _ x => x | _ => .skip
noncomputable def c7 : Code := match c6 with | .seq x _ => x | _ => .skip
noncomputable def c8 : Code := match c7 with | .cond _ x _ => x | _ => .skip
noncomputable def c9 : Code := match c7 with | .cond _ _ x => x | _ => .skip
noncomputable def c10 : Code := match c6 with | .seq _ x => x | _ => .skip
noncomputable def c11 : Code := match c10 with | .seq x _ => x | _ => .skip
noncomputable def c12 : Code := match c11 with | .block _ x => x | _ => .skip
noncomputable def c13 : Code := match c12 with | .seq x _ => x | _ => .skip
noncomputable def c14 : Code := match c12 with | .seq _ x => x | _ => .skip
noncomputable def c15 : Code := match c14 with | .seq x _ => x | _ => .skip
noncomputable def c16 : Code := match c14 with | .seq _ x => x | _ => .skip
noncomputable def c17 : Code := match c16 with | .cond _ x _ => x | _ => .skip
noncomputable def c18 : Code := match c16 with | .cond _ _ x => x | _ => .skip
noncomputable def c19 : Code := match c10 with | .seq _ x => x | _ => .skip
theorem e0 : c0 = .seq c1 c2 := by kernel_rfl
noncomputable def r1 : Array Oper := match c1 with | .region _ x _ => x | _ => #[]
theorem e1 : c1 = .region 0 r1 false := by kernel_rfl
theorem e2 : c2 = .block 0 c3 := by kernel_rfl
theorem e3 : c3 = .loop c4 := by kernel_rfl
theorem e4 : c4 = .seq c5 c6 := by kernel_rfl
noncomputable def r5 : Array Oper := match c5 with | .region _ x _ => x | _ => #[]
theorem e5 : c5 = .region 1 r5 false := by kernel_rfl
theorem e6 : c6 = .seq c7 c10 := by kernel_rfl
theorem e7 : c7 = .cond (.tmp 8) c8 c9 := by kernel_rfl
theorem e8 : c8 = .skip := by kernel_rfl
theorem e9 : c9 = .exit 0 := by kernel_rfl
theorem e10 : c10 = .seq c11 c19 := by kernel_rfl
theorem e11 : c11 = .block 1 c12 := by kernel_rfl
theorem e12 : c12 = .seq c13 c14 := by kernel_rfl
noncomputable def r13 : Array Oper := match c13 with | .region _ x _ => x | _ => #[]
theorem e13 : c13 = .region 2 r13 false := by kernel_rfl
theorem e14 : c14 = .seq c15 c16 := by kernel_rfl
noncomputable def r15 : Array Oper := match c15 with | .region _ x _ => x | _ => #[]
theorem e15 : c15 = .region 3 r15 false := by kernel_rfl
theorem e16 : c16 = .cond (.tmp 14) c17 c18 := by kernel_rfl
theorem e17 : c17 = .ret := by kernel_rfl
theorem e18 : c18 = .skip := by kernel_rfl
noncomputable def r19 : Array Oper := match c19 with | .region _ x _ => x | _ => #[]
theorem e19 : c19 = .region 4 r19 false := by kernel_rfl
theorem body : Try.f35.body = some c0 := by kernel_rfl
section
variable {base : Nat} {W0 : World} {β0 : Bt}
def L0 (D : Dp) (H : Hd) (k : Nat) : Nat → HV → Sl → Int → Int → HS → Option ((Unit) × HS)
  | 0, _, _, _, _, _ => none
  | n + 1, y0, y5, y6, y7, S =>
    (if y7 < y6 then
    (Option.bind (HS.idx S y5 y7 1) fun p4 =>
    (Option.bind (HS.ldI S .i64 p4) fun p5 =>
    (Option.bind (D H y0 [(.int .i64 p5)] S) fun p6 =>
    (Option.bind (dB p6.1) fun p7 =>
    (if (!p7) = true then
    some ((), p6.2) else
    (L0 D H k n) y0 y5 y6 (w64 (y7 + 1)) p6.2))))) else
    some ((), S))
theorem L0_snd {D : Dp} {H : Hd} {k : Nat} (hD : DSound Try.prog base W0 D) (hH : HSound Try.prog base W0 β0 H)  : ∀ {n : Nat} ⦃y0 : HV⦄ ⦃y5 : Sl⦄ ⦃y6 : Int⦄ ⦃y7 : Int⦄ ⦃S : HS⦄ ⦃p : (Unit) × HS⦄ ⦃g1 g2 g3 g4 g8 g9 g10 g11 g12 g13 g14 g15 : HV⦄, L0 D H k n y0 y5 y6 y7 S = some p → HRun Try.prog base W0 β0 35 none [.inLoop c4, .inBlock 0] ⟨[y0, g1, g2, g3, g4, (Sl.hv y5), (.int .i64 y6), (.int .i64 y7), g8, g9, g10, g11, g12, g13, g14, g15], []⟩ S (fun v S1 => v = (.tup []) ∧ S1 = p.2) := by
  intro n
  induction n with
  | zero => intro _ _ _ _ _ _ _ _ _ _ _ _ _ _ _ _ _ _ h; cases h
  | succ n ih =>
    intro y0 y5 y6 y7 S p g1 g2 g3 g4 g8 g9 g10 g11 g12 g13 g14 g15 h
    simp only [L0] at h
    refine hr_inLoop ?_
    refine q_seq e4 ?_
    refine q_region e5 rfl ?_
    refine q_op (dst := some 8) rfl (fun _ ho => ok_ibin ho (.tmp rfl) (.tmp rfl) rfl) ?_
    refine hr_region_end ?_
    try dsimp only [HAct.put, List.set_cons_zero, List.set_cons_succ]
    refine q_seq e6 ?_
    rcases ifc h with ⟨hc3, h⟩ | ⟨hc3, h⟩
    · refine q_cond_t e7 (.tmp rfl) (decide_eq_true hc3) ?_
      refine q_skipc e8 ?_
      refine q_seq e10 ?_
      refine q_block e11 ?_
      refine q_seq e12 ?_
      refine q_region e13 rfl ?_
      obtain ⟨p4, hp4, h⟩ := bindo h
      refine q_op (dst := some 9) rfl (fun _ ho => ok_indexAddr (s := y5) ho tu24 sz3 (.tmp rfl) (.tmp rfl) hp4) ?_
      obtain ⟨p5, hp5, h⟩ := bindo h
      refine q_op (dst := some 10) rfl (fun _ ho => ok_load_s ho sc3 (.tmp rfl) rfl (ldI_out hp5)) ?_
      refine q_op (dst := some 4) rfl (fun _ ho => ok_assign ho (.tmp rfl)) ?_
      refine hr_region_end ?_
      try dsimp only [HAct.put, List.set_cons_zero, List.set_cons_succ]
      refine q_seq e14 ?_
      refine q_region e15 rfl ?_
      refine q_op (dst := some 11) rfl (fun _ ho => ok_move ho (.tmp rfl)) ?_
      refine q_op (dst := some 12) rfl (fun _ ho => ok_move ho (.tmp rfl)) ?_
      obtain ⟨p6, hp6, h⟩ := bindo h
      obtain ⟨p7, hp7, h⟩ := bindo h
      refine q_call (dst := some 13) rfl (.tmp rfl) (.cons (.tmp rfl) Evs.nil) (hD _ _ hH _ _ _ _ _ hp6) ?_
      rintro _ _ ⟨rfl, rfl⟩
      rw [dB_out hp7]
      refine q_op (dst := some 14) rfl (fun _ ho => ok_not ho (.tmp rfl)) ?_
      refine hr_region_end ?_
      try dsimp only [HAct.put, List.set_cons_zero, List.set_cons_succ]
      rcases ifc h with ⟨hc8, h⟩ | ⟨hc8, h⟩
      · refine q_cond_t e16 (.tmp rfl) hc8 ?_
        cases h
        exact q_ret e17 at_.at_ rfl (res0 rfl) ⟨rfl, rfl⟩
      · refine q_cond_f e16 (.tmp rfl) (bfalse hc8) ?_
        refine q_skipc e18 ?_
        refine hr_inBlock ?_
        refine q_region e19 rfl ?_
        refine q_op (dst := some 15) rfl (fun _ ho => ok_ibin ho (.tmp rfl) (.int _ _) rfl) ?_
        refine q_op (dst := some 7) rfl (fun _ ho => ok_move ho (.tmp rfl)) ?_
        refine hr_region_end ?_
        try dsimp only [HAct.put, List.set_cons_zero, List.set_cons_succ]
        try dsimp only [HAct.put, List.set_cons_zero, List.set_cons_succ]
        exact ih h
    · refine q_cond_f e7 (.tmp rfl) (decide_eq_false hc3) ?_
      refine q_exit e9 rfl ?_
      cases h
      exact q_end at_.at_ rfl (res0 rfl) ⟨rfl, rfl⟩
def f (D : Dp) (H : Hd) (k : Nat) (x0 : HV) (x1 : (Option HA)) (S : HS) : Option ((Unit) × HS) :=
  (Option.bind (x1) fun p1 =>
  (Option.bind (HS.ldSl S p1) fun p2 =>
  L0 D H k k x0 p2 (Sl.len p2 : Int) 0 S))
theorem snd {D : Dp} {H : Hd} {k : Nat} {x0 : HV} {x1 : (Option HA)} {S : HS} (hD : DSound Try.prog base W0 D) (hH : HSound Try.prog base W0 β0 H)  {p : (Unit) × HS} (h : f D H k x0 x1 S = some p) : HCall Try.prog base W0 β0 35 [x0, (.ptr x1)] S (fun v S1 => v = (.tup []) ∧ S1 = p.2) := by
  unfold f at h
  refine HCall.of_run at_.at_ body ?_
  show HRun Try.prog base W0 β0 35 none [.code c0] ⟨[x0, (.ptr x1), .tup [], .tup [], .tup [], .tup [], .tup [], .tup [], .tup [], .tup [], .tup [], .tup [], .tup [], .tup [], .tup [], .tup []], []⟩ S _
  refine q_seq e0 ?_
  refine q_region e1 rfl ?_
  obtain ⟨p1, hp1, h⟩ := bindo h
  obtain ⟨p2, hp2, h⟩ := bindo h
  refine q_op (dst := some 5) rfl (fun _ ho => ok_load_s ho sc24 (.tmp rfl) hp1 (ldSl_out hp2)) ?_
  refine q_op (dst := some 6) rfl (fun _ ho => ok_len_sl (q := Sl.a p2) (n := Sl.len p2) (z := Sl.cap p2) ho rfl tu24 (.tmp rfl)) ?_
  refine q_op (dst := some 7) rfl (fun _ ho => ok_move ho (.int _ _)) ?_
  refine hr_region_end ?_
  try dsimp only [HAct.put, List.set_cons_zero, List.set_cons_succ]
  refine q_block e2 ?_
  refine q_loop e3 ?_
  try dsimp only [HAct.put, List.set_cons_zero, List.set_cons_succ]
  exact L0_snd hD hH h
end
end slices_Values_int_int_1
namespace slices_Values_int_int
abbrev id : Nat := 29
theorem at_ : FnAt Try.prog 29 Try.f29 := ⟨Try.func29, by kernel_rfl⟩
noncomputable def c0 : Code := (Try.f29.body).getD .skip
noncomputable def c1 : Code := match c0 with | .seq x _ => x | _ => .skip
noncomputable def c2 : Code := match c0 with | .seq _ x => x | _ => .skip
noncomputable def c3 : Code := match c2 with | .seq x _ => x | _ => .skip
noncomputable def c4 : Code := match c2 with | .seq _ x => x | _ => .skip
theorem e0 : c0 = .seq c1 c2 := by kernel_rfl
noncomputable def r1 : Array Oper := match c1 with | .region _ x _ => x | _ => #[]
theorem e1 : c1 = .region 0 r1 false := by kernel_rfl
theorem e2 : c2 = .seq c3 c4 := by kernel_rfl
noncomputable def r3 : Array Oper := match c3 with | .region _ x _ => x | _ => #[]
theorem e3 : c3 = .region 1 r3 false := by kernel_rfl
theorem e4 : c4 = .ret := by kernel_rfl
theorem body : Try.f29.body = some c0 := by kernel_rfl
section
variable {base : Nat} {W0 : World} {β0 : Bt}
def f (x0 : Sl) (S : HS) : Option ((HV) × HS) :=
  (letv (HS.new S (.cells 1 [[(Sl.hv x0)]] true)) fun p1 =>
  some ((HV.fn (.func 35) [] [(.ptr (some (HA.cell0 S.next)))]), p1))
theorem snd {x0 : Sl} {S : HS}  {p : (HV) × HS} (h : f x0 S = some p) : HCall Try.prog base W0 β0 29 [(Sl.hv x0)] S (fun v S1 => v = p.1 ∧ S1 = p.2) := by
  unfold f at h
  refine HCall.of_run at_.at_ body ?_
  show HRun Try.prog base W0 β0 29 none [.code c0] ⟨[(Sl.hv x0), .tup [], .tup [], .tup []], []⟩ S _
  refine q_seq e0 ?_
  refine q_region e1 rfl ?_
  obtain ⟨p1, hp1, h⟩ := leto h
  refine q_op (dst := some 1) rfl (fun _ ho => ok_box_e ho (.tmp rfl) (Nat.zero_lt_succ _) rfl hp1) ?_
  refine q_op (dst := some 2) rfl (fun _ ho => ok_assign ho (.const fun _ => .nilFn)) ?_
  refine hr_region_end ?_
  try dsimp only [HAct.put, List.set_cons_zero, List.set_cons_succ]
  refine q_seq e2 ?_
  refine q_region e3 rfl ?_
  refine q_op (dst := some 3) rfl (fun _ ho => ok_makeFunc ho Evs.nil (.cons (.tmp rfl) Evs.nil)) ?_
  refine q_op (dst := some 2) rfl (fun _ ho => ok_assign ho (.tmp rfl)) ?_
  refine hr_region_end ?_
  try dsimp only [HAct.put, List.set_cons_zero, List.set_cons_succ]
  cases h
  exact q_ret e4 at_.at_ rfl (res1 rfl rfl) ⟨rfl, rfl⟩
end
end slices_Values_int_int
namespace set_Set_int_All
abbrev id : Nat := 19
theorem at_ : FnAt Try.prog 19 Try.f19 := ⟨Try.func19, by kernel_rfl⟩
noncomputable def c0 : Code := (Try.f19.body).getD .skip
noncomputable def c1 : Code := match c0 with | .seq x _ => x | _ => .skip
noncomputable def c2 : Code := match c0 with | .seq _ x => x | _ => .skip
noncomputable def c3 : Code := match c2 with | .seq x _ => x | _ => .skip
noncomputable def c4 : Code := match c2 with | .seq _ x => x | _ => .skip
theorem e0 : c0 = .seq c1 c2 := by kernel_rfl
noncomputable def r1 : Array Oper := match c1 with | .region _ x _ => x | _ => #[]
theorem e1 : c1 = .region 0 r1 false := by kernel_rfl
theorem e2 : c2 = .seq c3 c4 := by kernel_rfl
noncomputable def r3 : Array Oper := match c3 with | .region _ x _ => x | _ => #[]
theorem e3 : c3 = .region 1 r3 false := by kernel_rfl
theorem e4 : c4 = .ret := by kernel_rfl
theorem body : Try.f19.body = some c0 := by kernel_rfl
section
variable {base : Nat} {W0 : World} {β0 : Bt}
def f (x0 : (Option HA)) (S : HS) : Option ((HV) × HS) :=
  (Option.bind (set_Set_int_List.f x0 S) fun p1 =>
  (Option.bind (slices_Values_int_int.f p1.1 p1.2) fun p2 =>
  some (p2.1, p2.2)))
theorem snd {x0 : (Option HA)} {S : HS}  {p : (HV) × HS} (h : f x0 S = some p) : HCall Try.prog base W0 β0 19 [(.ptr x0)] S (fun v S1 => v = p.1 ∧ S1 = p.2) := by
  unfold f at h
  refine HCall.of_run at_.at_ body ?_
  show HRun Try.prog base W0 β0 19 none [.code c0] ⟨[(.ptr x0), .tup [], .tup [], .tup [], .tup [], .tup []], []⟩ S _
  refine q_seq e0 ?_
  refine q_region e1 rfl ?_
  refine q_op (dst := some 2) rfl (fun _ ho => ok_assign ho (.const fun _ => .nilFn)) ?_
  refine hr_region_end ?_
  try dsimp only [HAct.put, List.set_cons_zero, List.set_cons_succ]
  refine q_seq e2 ?_
  refine q_region e3 rfl ?_
  refine q_op (dst := some 3) rfl (fun _ ho => ok_move ho (.tmp rfl)) ?_
  obtain ⟨p1, hp1, h⟩ := bindo h
  refine q_call (dst := some 4) rfl (.func _) (.cons (.tmp rfl) Evs.nil) (HInv.static set_Set_int_List.at_ set_Set_int_List.body (set_Set_int_List.snd  hp1)) ?_
  rintro _ _ ⟨rfl, rfl⟩
  obtain ⟨p2, hp2, h⟩ := bindo h
  refine q_call (dst := some 5) rfl (.func _) (.cons (.tmp rfl) Evs.nil) (HInv.static slices_Values_int_int.at_ slices_Values_int_int.body (slices_Values_int_int.snd  hp2)) ?_
  rintro _ _ ⟨rfl, rfl⟩
  refine q_op (dst := some 2) rfl (fun _ ho => ok_assign ho (.tmp rfl)) ?_
  refine hr_region_end ?_
  try dsimp only [HAct.put, List.set_cons_zero, List.set_cons_succ]
  cases h
  exact q_ret e4 at_.at_ rfl (res1 rfl rfl) ⟨rfl, rfl⟩
end
end set_Set_int_All
namespace set_Set_int_Has
abbrev id : Nat := 22
theorem at_ : FnAt Try.prog 22 Try.f22 := ⟨Try.func22, by kernel_rfl⟩
noncomputable def c0 : Code := (Try.f22.body).getD .skip
noncomputable def c1 : Code := match c0 with | .seq x _ => x | _ => .skip
noncomputable def c2 : Code := match c0 with | .seq _ x => x | _ => .skip
noncomputable def c3 : Code := match c2 with | .seq x _ => x | _ => .skip
noncomputable def c4 : Code := match c3 with | .seq x _ => x | _ => .skip
noncomputable def c5 : Code := match c3 with | .seq _ x => x | _ => .skip
noncomputable def c6 : Code := match c5 with | .cond _ x _ => x | _ => .skip
noncomputable def c7 : Code := match c6 with | .seq x _ => x | _ => .skip
noncomputable def c8 : Code := match c6 with | .seq _ x => x | _ => .skip
noncomputable def c9 : Code := match c5 with | .cond _ _ x => x | _ => .skip
noncomputable def c10 : Code := match c2 with | .seq _ x => x | _ => .skip
noncomputable def c11 : Code := match c10 with | .seq x _ => x | _ => .skip
noncomputable def c12 : Code := match c10 with | .seq _ x => x | _ => .skip
noncomputable def c13 : Code := match c12 with | .seq x _ => x | _ => .skip
noncomputable def c14 : Code := match c12 with | .seq _ x => x | _ => .skip
theorem e0 : c0 = .seq c1 c2 := by kernel_rfl
noncomputable def r1 : Array Oper := match c1 with | .region _ x _ => x | _ => #[]
theorem e1 : c1 = .region 0 r1 false := by kernel_rfl
theorem e2 : c2 = .seq c3 c10 := by kernel_rfl
theorem e3 : c3 = .seq c4 c5 := by kernel_rfl
noncomputable def r4 : Array Oper := match c4 with | .region _ x _ => x | _ => #[]
theorem e4 : c4 = .region 1 r4 false := by kernel_rfl
theorem e5 : c5 = .cond (.tmp 8) c6 c9 := by kernel_rfl
theorem e6 : c6 = .seq c7 c8 := by kernel_rfl
noncomputable def r7 : Array Oper := match c7 with | .region _ x _ => x | _ => #[]
theorem e7 : c7 = .region 2 r7 false := by kernel_rfl
theorem e8 : c8 = .ret := by kernel_rfl
theorem e9 : c9 = .skip := by kernel_rfl
theorem e10 : c10 = .seq c11 c12 := by kernel_rfl
noncomputable def r11 : Array Oper := match c11 with | .region _ x _ => x | _ => #[]
theorem e11 : c11 = .region 3 r11 false := by kernel_rfl
theorem e12 : c12 = .seq c13 c14 := by kernel_rfl
noncomputable def r13 : Array Oper := match c13 with | .region _ x _ => x | _ => #[]
theorem e13 : c13 = .region 4 r13 false := by kernel_rfl
theorem e14 : c14 = .ret := by kernel_rfl
theorem body : Try.f22.body = some c0 := by kernel_rfl
section
variable {base : Nat} {W0 : World} {β0 : Bt}
def f (k : Nat) (x0 : (Option HA)) (x1 : Int) (S : HS) : Option ((Bool) × HS) :=
  (if (Option.isNone x0) = true then
  some (false, S) else
  (Option.bind (x0) fun p2 =>
  (Option.bind (HS.ldSl S (HA.fld p2 0)) fun p3 =>
  (Option.bind (slices_BinarySearch_int_int.f k p3 x1 S) fun p4 =>
  some (p4.1.2, p4.2)))))
theorem snd {k : Nat} {x0 : (Option HA)} {x1 : Int} {S : HS}  {p : (Bool) × HS} (h : f k x0 x1 S = some p) : HCall Try.prog base W0 β0 22 [(.ptr x0), (.int .i64 x1)] S (fun v S1 => v = (.bool p.1) ∧ S1 = p.2) := by
  unfold f at h
  refine HCall.of_run at_.at_ body ?_
  show HRun Try.prog base W0 β0 22 none [.code c0] ⟨[(.ptr x0), (.int .i64 x1), .tup [], .tup [], .tup [], .tup [], .tup [], .tup [], .tup [], .tup [], .tup [], .tup [], .tup [], .tup [], .tup [], .tup [], .tup [], .tup [], .tup []], []⟩ S _
  refine q_seq e0 ?_
  refine q_region e1 rfl ?_
  refine q_op (dst := some 4) rfl (fun _ ho => ok_assign ho (.bool _)) ?_
  refine hr_region_end ?_
  try dsimp only [HAct.put, List.set_cons_zero, List.set_cons_succ]
  refine q_seq e2 ?_
  refine q_seq e3 ?_
  refine q_region e4 rfl ?_
  refine q_op (dst := some 7) rfl (fun _ ho => ok_move ho (.tmp rfl)) ?_
  refine q_op (dst := some 8) rfl (fun _ ho => ok_nil_ptr ho tu26 (.tmp rfl) (.inl ⟨rfl, rfl⟩)) ?_
  refine hr_region_end ?_
  try dsimp only [HAct.put, List.set_cons_zero, List.set_cons_succ]
  rcases ifc h with ⟨hc1, h⟩ | ⟨hc1, h⟩
  · refine q_cond_t e5 (.tmp rfl) hc1 ?_
    refine q_seq e6 ?_
    refine q_region e7 rfl ?_
    refine q_op (dst := some 4) rfl (fun _ ho => ok_assign ho (.bool _)) ?_
    refine hr_region_end ?_
    try dsimp only [HAct.put, List.set_cons_zero, List.set_cons_succ]
    cases h
    exact q_ret e8 at_.at_ rfl (res1 rfl rfl) ⟨rfl, rfl⟩
  · refine q_cond_f e5 (.tmp rfl) (bfalse hc1) ?_
    refine q_skipc e9 ?_
    refine q_seq e10 ?_
    refine q_region e11 rfl ?_
    refine q_op (dst := some 10) rfl (fun _ ho => ok_move ho (.tmp rfl)) ?_
    obtain ⟨p2, hp2, h⟩ := bindo h
    refine q_op (dst := some 11) rfl (fun _ ho => ok_nilCheck_p ho (.tmp rfl) hp2) ?_
    refine q_op (dst := some 12) rfl (fun _ ho => ok_fieldAddr_s ho fi50_0 (by decide) (.tmp rfl) rfl) ?_
    obtain ⟨p3, hp3, h⟩ := bindo h
    refine q_op (dst := some 13) rfl (fun _ ho => ok_load_s ho sc24 (.tmp rfl) rfl (ldSl_out hp3)) ?_
    try dsimp only [HAct.put, List.set_cons_zero, List.set_cons_succ]
    refine q_op (dst := some 14) rfl (fun _ ho => ok_move ho (.tmp rfl)) ?_
    obtain ⟨p4, hp4, h⟩ := bindo h
    refine q_call (dst := some 15) rfl (.func _) (.cons (.tmp rfl) (.cons (.tmp rfl) Evs.nil)) (HInv.static slices_BinarySearch_int_int.at_ slices_BinarySearch_int_int.body (slices_BinarySearch_int_int.snd  hp4)) ?_
    rintro _ _ ⟨rfl, rfl⟩
    refine q_op (dst := some 9) rfl (fun _ ho => ok_move ho (.tmp rfl)) ?_
    refine q_op (dst := some 16) rfl (fun _ ho => ok_extract ho (.tmp rfl) rfl) ?_
    try dsimp only [HAct.put, List.set_cons_zero, List.set_cons_succ]
    refine q_op (dst := some 17) rfl (fun _ ho => ok_extract ho (.tmp rfl) rfl) ?_
    refine q_op (dst := some 5) rfl (fun _ ho => ok_assign ho (.tmp rfl)) ?_
    refine q_op (dst := some 6) rfl (fun _ ho => ok_assign ho (.tmp rfl)) ?_
    refine hr_region_end ?_
    try dsimp only [HAct.put, List.set_cons_zero, List.set_cons_succ]
    refine q_seq e12 ?_
    refine q_region e13 rfl ?_
    refine q_op (dst := some 18) rfl (fun _ ho => ok_move ho (.tmp rfl)) ?_
    refine q_op (dst := some 4) rfl (fun _ ho => ok_assign ho (.tmp rfl)) ?_
    refine hr_region_end ?_
    try dsimp only [HAct.put, List.set_cons_zero, List.set_cons_succ]
    cases h
    exact q_ret e14 at_.at_ rfl (res1 rfl rfl) ⟨rfl, rfl⟩
end
end set_Set_int_Has
namespace set_Meet_int
abbrev id : Nat := 15
theorem at_ : FnAt Try.prog 15 Try.f15 := ⟨Try.func15, by kernel_rfl⟩
noncomputable def c0 : Code := (Try.f15.body).getD .skip
noncomputable def c1 : Code := match c0 with | .seq x _ => x | _ => .skip
noncomputable def c2 : Code := match c0 with | .seq _ x => x | _ => .skip
noncomputable def c3 : Code := match c2 with | .seq x _ => x | _ => .skip
noncomputable def c4 : Code := match c3 with | .seq x _ => x | _ => .skip
noncomputable def c5 : Code := match c3 with | .seq _ x => x | _ => .skip
noncomputable def c6 : Code := match c5 with | .block _ x => x | _ => .skip
noncomputable def c7 : Code := match c6 with | .rangeFunc _ _ x _ => x | _ => .skip
noncomputable def c8 : Code := match c6 with | .rangeFunc _ _ _ x => x | _ => .skip
noncomputable def c9 : Code := match c8 with | .block _ x => x | _ => .skip
noncomputable def c10 : Code := match c9 with | .seq x _ => x | _ => .skip
noncomputable def c11 : Code := match c9 with | .seq _ x => x | _ => .skip
noncomputable def c12 : Code := match c11 with | .cond _ x _ => x | _ => .skip
noncomputable def c13 : Code := match c12 with | .seq x _ => x | _ => .skip
noncomputable def c14 : Code := match c12 with | .seq _ x => x | _ => .skip
noncomputable def c15 : Code := match c11 with | .cond _ _ x => x | _ => .skip
noncomputable def c16 : Code := match c2 with | .seq _ x => x | _ => .skip
noncomputable def c17 : Code := match c16 with | .seq x _ => x | _ => .skip
noncomputable def c18 : Code := match c16 with | .seq _ x => x | _ => .skip
theorem e0 : c0 = .seq c1 c2 := by kernel_rfl
noncomputable def r1 : Array Oper := match c1 with | .region _ x _ => x | _ => #[]
theorem e1 : c1 = .region 0 r1 false := by kernel_rfl
theorem e2 : c2 = .seq c3 c16 := by kernel_rfl
theorem e3 : c3 = .seq c4 c5 := by kernel_rfl
noncomputable def r4 : Array Oper := match c4 with | .region _ x _ => x | _ => #[]
theorem e4 : c4 = .region 1 r4 false := by kernel_rfl
theorem e5 : c5 = .block 0 c6 := by kernel_rfl
theorem e6 : c6 = .rangeFunc (.tmp 7) #[8] c7 c8 := by kernel_rfl
noncomputable def r7 : Array Oper := match c7 with | .region _ x _ => x | _ => #[]
theorem e7 : c7 = .region 2 r7 false := by kernel_rfl
theorem e8 : c8 = .block 1 c9 := by kernel_rfl
theorem e9 : c9 = .seq c10 c11 := by kernel_rfl
noncomputable def r10 : Array Oper := match c10 with | .region _ x _ => x | _ => #[]
theorem e10 : c10 = .region 3 r10 false := by kernel_rfl
theorem e11 : c11 = .cond (.tmp 11) c12 c15 := by kernel_rfl
theorem e12 : c12 = .seq c13 c14 := by kernel_rfl
noncomputable def r13 : Array Oper := match c13 with | .region _ x _ => x | _ => #[]
theorem e13 : c13 = .region 4 r13 false := by kernel_rfl
theorem e14 : c14 = .ret := by kernel_rfl
theorem e15 : c15 = .skip := by kernel_rfl
theorem e16 : c16 = .seq c17 c18 := by kernel_rfl
noncomputable def r17 : Array Oper := match c17 with | .region _ x _ => x | _ => #[]
theorem e17 : c17 = .region 5 r17 false := by kernel_rfl
theorem e18 : c18 = .ret := by kernel_rfl
theorem body : Try.f15.body = some c0 := by kernel_rfl
section
variable {base : Nat} {W0 : World} {β0 : Bt}
def J0 (D : Dp) (H : Hd) (k : Nat) (l : Nat) (y3 : (Option HA)) (y4 : (Option HA)) (y8 : Int) (S : HS) : Option (HV × HS) :=
  (Option.bind (HS.begin_ S l) fun p4 =>
  (Option.bind (y3) fun p5 =>
  (Option.bind (HS.ldP p4 p5) fun p6 =>
  (Option.bind (set_Set_int_Has.f k p6 y8 p4) fun p7 =>
  (if p7.1 = true then
  (Option.bind (y4) fun p9 =>
  (Option.bind (HS.sets p7.2 p9 [(.bool true)]) fun p10 =>
  (HS.endr p10 l (some .ret)))) else
  (HS.endr p7.2 l none))))))
theorem J0_snd {D : Dp} {H : Hd} {k : Nat} {l : Nat} (hD : DSound Try.prog base W0 D) (hH : HSound Try.prog base W0 β0 H)  {y3 : (Option HA)} {y4 : (Option HA)} {y8 : Int} {S : HS} {p : HV × HS} {g0 g1 g2 g5 g6 g7 g9 g10 g11 : HV} (h : J0 D H k l y3 y4 y8 S = some p) : HRun Try.prog base W0 β0 15 (some l) [.code c7, .beginRound, .code c8] ⟨[g0, g1, g2, (.ptr y3), (.ptr y4), g5, g6, g7, (.int .i64 y8), g9, g10, g11], []⟩ S (fun v S1 => v = p.1 ∧ S1 = p.2) := by
  unfold J0 at h
  refine q_region e7 rfl ?_
  refine q_op (dst := some 5) rfl (fun _ ho => ok_assign ho (.tmp rfl)) ?_
  refine hr_region_end ?_
  try dsimp only [HAct.put, List.set_cons_zero, List.set_cons_succ]
  obtain ⟨p4, hp4, h⟩ := bindo h
  refine q_begin hp4 ?_
  refine q_block e8 ?_
  refine q_seq e9 ?_
  refine q_region e10 rfl ?_
  obtain ⟨p5, hp5, h⟩ := bindo h
  obtain ⟨p6, hp6, h⟩ := bindo h
  refine q_op (dst := some 9) rfl (fun _ ho => ok_load_s ho sc26 (.tmp rfl) hp5 (ldP_out hp6)) ?_
  refine q_op (dst := some 10) rfl (fun _ ho => ok_move ho (.tmp rfl)) ?_
  obtain ⟨p7, hp7, h⟩ := bindo h
  refine q_call (dst := some 11) rfl (.func _) (.cons (.tmp rfl) (.cons (.tmp rfl) Evs.nil)) (HInv.static set_Set_int_Has.at_ set_Set_int_Has.body (set_Set_int_Has.snd  hp7)) ?_
  rintro _ _ ⟨rfl, rfl⟩
  refine hr_region_end ?_
  try dsimp only [HAct.put, List.set_cons_zero, List.set_cons_succ]
  rcases ifc h with ⟨hc8, h⟩ | ⟨hc8, h⟩
  · refine q_cond_t e11 (.tmp rfl) hc8 ?_
    refine q_seq e12 ?_
    refine q_region e13 rfl ?_
    obtain ⟨p9, hp9, h⟩ := bindo h
    obtain ⟨p10, hp10, h⟩ := bindo h
    refine q_op (dst := none) rfl (fun _ ho => ok_store_s (v := (.bool true)) ho sz4 (.tmp rfl) hp9 (.bool _) rfl hp10) ?_
    refine hr_region_end ?_
    try dsimp only [HAct.put, List.set_cons_zero, List.set_cons_succ]
    exact q_round_ret e14 h ⟨rfl, rfl⟩
  · refine q_cond_f e11 (.tmp rfl) (bfalse hc8) ?_
    refine q_skipc e15 ?_
    refine hr_inBlock ?_
    exact q_round_end h ⟨rfl, rfl⟩
def f (D : Dp) (H : Hd) (k : Nat) (x0 : (Option HA)) (x1 : (Option HA)) (S : HS) : Option ((Bool) × HS) :=
  (letv (HS.new S (.cells 1 [[(.ptr x1)]] true)) fun p1 =>
  (letv (HS.new p1 (.cells 1 [[(.bool false)]] true)) fun p2 =>
  (Option.bind (set_Set_int_All.f x0 p2) fun p3 =>
  (Option.bind (D (Hd.set H (HS.next p3.2 + 1) fun vs T =>
  (Option.bind (HS.lp T (HS.next p3.2 + 1)) fun u13 =>
  (Option.bind (args1 vs) fun ar11 =>
  (Option.bind (dI .i64 ar11) fun p12 =>
  (J0 D H k (HS.next p3.2 + 1) (some (HA.cell0 S.next)) (some (HA.cell0 p1.next)) p12 T))))) p3.1 [.fn (.yield (HS.next p3.2 + 1)) [] []] (HS.new (HS.new p3.2 .defer) (.loop .ready none))) fun p14 =>
  (Option.bind (HS.finish p14.2 (HS.next p3.2 + 1)) fun p15 =>
  (Option.bind (pcode p15.1) fun n16 =>
  (if n16 = 0 then
  (Option.bind (HS.sets p15.2 (HA.cell0 p1.next) [(.bool false)]) fun p18 =>
  (Option.bind (HS.leave p18 (HS.next p3.2 :: [])) fun p19 =>
  (Option.bind (HS.ldB p19 (HA.cell0 p1.next)) fun p20 =>
  some (p20, p19)))) else
  (if n16 = 1 then
  (Option.bind (HS.leave p15.2 (HS.next p3.2 :: [])) fun p22 =>
  (Option.bind (HS.ldB p22 (HA.cell0 p1.next)) fun p23 =>
  some (p23, p22))) else
  none))))))))
theorem snd {D : Dp} {H : Hd} {k : Nat} {x0 : (Option HA)} {x1 : (Option HA)} {S : HS} (hD : DSound Try.prog base W0 D) (hH : HSound Try.prog base W0 β0 H)  {p : (Bool) × HS} (h : f D H k x0 x1 S = some p) : HCall Try.prog base W0 β0 15 [(.ptr x0), (.ptr x1)] S (fun v S1 => v = (.bool p.1) ∧ S1 = p.2) := by
  unfold f at h
  refine HCall.of_run at_.at_ body ?_
  show HRun Try.prog base W0 β0 15 none [.code c0] ⟨[(.ptr x0), (.ptr x1), .tup [], .tup [], .tup [], .tup [], .tup [], .tup [], .tup [], .tup [], .tup [], .tup []], []⟩ S _
  refine q_seq e0 ?_
  refine q_region e1 rfl ?_
  obtain ⟨p1, hp1, h⟩ := leto h
  refine q_op (dst := some 3) rfl (fun _ ho => ok_box_e ho (.tmp rfl) (Nat.zero_lt_succ _) rfl hp1) ?_
  obtain ⟨p2, hp2, h⟩ := leto h
  refine q_op (dst := some 4) rfl (fun _ ho => ok_alloc_e ho zi4 zr4 (by decide) rfl hp2) ?_
  refine hr_region_end ?_
  try dsimp only [HAct.put, List.set_cons_zero, List.set_cons_succ]
  refine q_seq e2 ?_
  refine q_seq e3 ?_
  refine q_region e4 rfl ?_
  refine q_op (dst := some 6) rfl (fun _ ho => ok_move ho (.tmp rfl)) ?_
  obtain ⟨p3, hp3, h⟩ := bindo h
  refine q_call (dst := some 7) rfl (.func _) (.cons (.tmp rfl) Evs.nil) (HInv.static set_Set_int_All.at_ set_Set_int_All.body (set_Set_int_All.snd  hp3)) ?_
  rintro _ _ ⟨rfl, rfl⟩
  refine hr_region_end ?_
  try dsimp only [HAct.put, List.set_cons_zero, List.set_cons_succ]
  refine q_block e5 ?_
  obtain ⟨p14, hp14, h⟩ := bindo h
  obtain ⟨p15, hp15, h⟩ := bindo h
  obtain ⟨n16, hn16, h⟩ := bindo h
  refine q_range (D := D) (H := H) e6 (.tmp rfl) hD hH hp14 hp15 ?_ ?_
  · intro β1 hle hLA vs T u T' hr
    obtain ⟨u13, hu13, hr⟩ := bindo hr
    obtain ⟨ar11, har11, hr⟩ := bindo hr
    obtain ⟨p12, hp12, hr⟩ := bindo hr
    rw [args1_out har11]
    refine q_yield2 hLA hu13 rfl rfl ?_
    rw [dI_out hp12]
    simp only [HAct.params, List.set_cons_zero, List.set_cons_succ]
    exact J0_snd hD (hH.up hle) hr
  · rcases ifc h with ⟨hc17, h⟩ | ⟨hc17, h⟩
    · rw [pcode0 hn16 hc17]
      simp only [jumped_none, jumped_some]
      refine hr_inBlock ?_
      refine q_seq e16 ?_
      refine q_region e17 rfl ?_
      obtain ⟨p18, hp18, h⟩ := bindo h
      refine q_op (dst := none) rfl (fun _ ho => ok_store_s (v := (.bool false)) ho sz4 (.tmp rfl) rfl (.bool _) rfl hp18) ?_
      refine hr_region_end ?_
      try dsimp only [HAct.put, List.set_cons_zero, List.set_cons_succ]
      obtain ⟨p19, hp19, h⟩ := bindo h
      obtain ⟨p20, hp20, h⟩ := bindo h
      cases h
      exact q_ret e18 at_.at_ hp19 (resL1 rfl (.cell rfl rfl sc4 (ldB_out hp20))) ⟨rfl, rfl⟩
    · rcases ifc h with ⟨hc21, h⟩ | ⟨hc21, h⟩
      · rw [pcode1 hn16 hc21]
        simp only [jumped_none, jumped_some]
        obtain ⟨p22, hp22, h⟩ := bindo h
        obtain ⟨p23, hp23, h⟩ := bindo h
        cases h
        exact q_ret rfl at_.at_ hp22 (resL1 rfl (.cell rfl rfl sc4 (ldB_out hp23))) ⟨rfl, rfl⟩
      · cases h
end
end set_Meet_int
end Go.Proofs.Ytpdainofeaombaa.X
