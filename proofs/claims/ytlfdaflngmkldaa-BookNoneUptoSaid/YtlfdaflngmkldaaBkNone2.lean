/- Functions of the program, each as a Lean function over the layer HL: a call answers what the Lean function answers, where it answers. -/
import Derived.Test.YtlfdaflngmkldaaProg
import Derived.Test.YtlfdaflngmkldaaBkNone
namespace Go.Proofs.Ytlfdaflngmkldaa.X
open Go.Proofs.Ytlfdaflngmkldaa.HL
set_option linter.unusedVariables false
set_option linter.unusedSimpArgs false
set_option maxRecDepth 20000
set_option maxHeartbeats 4000000
namespace slices_Clone_book_entry_int_book_entry_int
abbrev id : Nat := 63
theorem at_ : FnAt Try.prog 63 Try.f63 := ⟨Try.func63, by kernel_rfl⟩
noncomputable def c0 : Code := (Try.f63.body).getD .skip
noncomputable def c1 : Code := match c0 with | .seq x _ => x | _ => .skip
noncomputable def c2 : Code := match c0 with | .seq _ x => x | _ => .skip
noncomputable def c3 : Code := match c2 with | .seq x _ => x | _ => .skip
noncomputable def c4 : Code := match c3 with | .seq x _ => x | _ => .skip
noncomputable def c5 : Code := match c3 with | .seq _ x => x | _ => .skip
noncomputable def c6 : Code := match c5 with | .cond _ x _ => x | _ => .skip
noncomputable def c7 : Code := match c6 with | .seq x _ => x | _ => .skip
noncomputable def c8 : Code := match c6 with | .seq _ x => x | _ => .skip
noncomputable def c9 : Code := match c5 with | .cond _ _ x => x | _ => .skip
noncomputable def c10 : Code := match c2 with | .seq _ x => x | _ => .skip
noncomputable def c11 : Code := match c10 with | .seq x _ => x | _ => .skip
noncomputable def c12 : Code := match c10 with | .seq _ x => x | _ => .skip
theorem e0 : c0 = .seq c1 c2 := by kernel_rfl
noncomputable def r1 : Array Oper := match c1 with | .region _ x _ => x | _ => #[]
theorem e1 : c1 = .region 0 r1 false := by kernel_rfl
theorem e2 : c2 = .seq c3 c10 := by kernel_rfl
theorem e3 : c3 = .seq c4 c5 := by kernel_rfl
noncomputable def r4 : Array Oper := match c4 with | .region _ x _ => x | _ => #[]
theorem e4 : c4 = .region 1 r4 false := by kernel_rfl
theorem e5 : c5 = .cond (.tmp 4) c6 c9 := by kernel_rfl
theorem e6 : c6 = .seq c7 c8 := by kernel_rfl
noncomputable def r7 : Array Oper := match c7 with | .region _ x _ => x | _ => #[]
theorem e7 : c7 = .region 2 r7 false := by kernel_rfl
theorem e8 : c8 = .ret := by kernel_rfl
theorem e9 : c9 = .skip := by kernel_rfl
theorem e10 : c10 = .seq c11 c12 := by kernel_rfl
noncomputable def r11 : Array Oper := match c11 with | .region _ x _ => x | _ => #[]
theorem e11 : c11 = .region 3 r11 false := by kernel_rfl
theorem e12 : c12 = .ret := by kernel_rfl
theorem body : Try.f63.body = some c0 := by kernel_rfl
section
variable {base : Nat} {W0 : World} {β0 : Bt}
def f (x0 : Sl) (S : HS) : Option ((Sl) × HS) :=
  (if (Option.isNone (Sl.a x0)) = true then
  some (Sl.nil, S) else
  (letv (HS.lit S [] 2) fun p2 =>
  (Option.bind (HS.rows (p2.2) x0 2) fun p3 =>
  (Option.bind (HS.app (p2.2) (p2.1) p3 2) fun p4 =>
  some ((p4.1), (p4.2))))))
theorem snd {x0 : Sl} {S : HS}  {p : (Sl) × HS} (h : f x0 S = some p) : HCall Try.prog base W0 β0 63 [(Sl.hv x0)] S (fun v S1 => v = (Sl.hv p.1) ∧ S1 = p.2) := by
  unfold f at h
  refine HCall.of_run at_.at_ body ?_
  show HRun Try.prog base W0 β0 63 none [.code c0] ⟨[(Sl.hv x0), .tup [], .tup [], .tup [], .tup [], .tup [], .tup [], .tup []], []⟩ S _
  refine q_seq e0 ?_
  refine q_region e1 rfl ?_
  refine q_op (dst := some 2) rfl (fun _ ho => ok_assign ho (.const fun _ => .slNil none)) ?_
  refine hr_region_end ?_
  try dsimp only [HAct.put, List.set_cons_zero, List.set_cons_succ]
  refine q_seq e2 ?_
  refine q_seq e3 ?_
  refine q_region e4 rfl ?_
  refine q_op (dst := some 3) rfl (fun _ ho => ok_move ho (.tmp rfl)) ?_
  refine q_op (dst := some 4) rfl (fun _ ho => ok_nil_sl ho tu85 (.tmp rfl) (.inl ⟨rfl, rfl⟩)) ?_
  refine hr_region_end ?_
  try dsimp only [HAct.put, List.set_cons_zero, List.set_cons_succ]
  rcases ifc h with ⟨hc1, h⟩ | ⟨hc1, h⟩
  · refine q_cond_t e5 (.tmp rfl) hc1 ?_
    refine q_seq e6 ?_
    refine q_region e7 rfl ?_
    refine q_op (dst := some 2) rfl (fun _ ho => ok_assign ho (.const fun _ => .slNil none)) ?_
    refine hr_region_end ?_
    try dsimp only [HAct.put, List.set_cons_zero, List.set_cons_succ]
    cases h
    exact q_ret e8 at_.at_ rfl (res1 rfl rfl) ⟨rfl, rfl⟩
  · refine q_cond_f e5 (.tmp rfl) (bfalse hc1) ?_
    refine q_skipc e9 ?_
    refine q_seq e10 ?_
    refine q_region e11 rfl ?_
    obtain ⟨p2, hp2, h⟩ := leto h
    refine q_op (dst := some 5) rfl (fun _ ho => ok_buildSlice_s (xs := []) el85 ho rfl rfl (by decide) Evs.nil rfl rfl hp2) ?_
    refine q_op (dst := some 6) rfl (fun _ ho => ok_move ho (.tmp rfl)) ?_
    obtain ⟨p3, hp3, h⟩ := bindo h
    obtain ⟨p4, hp4, h⟩ := bindo h
    refine q_op (dst := some 7) rfl (fun _ ho => ok_append (s := (p2.1)) (s1 := x0) el85 ho rfl rfl ⟨_, tu85⟩ (.tmp rfl) (.tmp rfl) hp3 hp4) ?_
    refine q_op (dst := some 2) rfl (fun _ ho => ok_assign ho (.tmp rfl)) ?_
    refine hr_region_end ?_
    try dsimp only [HAct.put, List.set_cons_zero, List.set_cons_succ]
    cases h
    exact q_ret e12 at_.at_ rfl (res1 rfl rfl) ⟨rfl, rfl⟩
end
end slices_Clone_book_entry_int_book_entry_int
namespace book_told_int_1
abbrev id : Nat := 69
theorem at_ : FnAt Try.prog 69 Try.f69 := ⟨Try.func69, by kernel_rfl⟩
noncomputable def c0 : Code := (Try.f69.body).getD .skip
noncomputable def c1 : Code := match c0 with | .seq x _ => x | _ => .skip
noncomputable def c2 : Code := match c0 with | .seq _ x => x | _ => .skip
noncomputable def c3 : Code := match c2 with | .block _ x => x | _ => .skip
noncomputable def c4 : Code := match c3 with | .loop x => x | _ => .skip
noncomputable def c5 : Code := match c4 with | .seq x _ => x | _ => .skip
noncomputable def c6 : Code := match c4 with | .seq _ x => x | _ => .skip
noncomputable def c7 : Code := match c6 with | .seq x _ => x | _ => .skip
noncomputable def c8 : Code := match c7 with | .cond _ x _ => x | _ => .skip
noncomputable def c9 : Code := match c7 with | .cond _ _ x => x | _ => .skip
noncomputable def c10 : Code := match c6 with | .seq _ x => x | _ => .skip
noncomputable def c11 : Code := match c10 with | .seq x _ => x | _ => .skip
noncomputable def c12 : Code := match c11 with | .block _ x => x | _ => .skip
noncomputable def c13 : Code := match c12 with | .seq x _ => x | _ => .skip
noncomputable def c14 : Code := match c12 with | .seq _ x => x | _ => .skip
noncomputable def c15 : Code := match c14 with | .seq x _ => x | _ => .skip
noncomputable def c16 : Code := match c14 with | .seq _ x => x | _ => .skip
noncomputable def c17 : Code := match c16 with | .cond _ x _ => x | _ => .skip
noncomputable def c18 : Code := match c16 with | .cond _ _ x => x | _ => .skip
noncomputable def c19 : Code := match c10 with | .seq _ x => x | _ => .skip
theorem e0 : c0 = .seq c1 c2 := by kernel_rfl
noncomputable def r1 : Array Oper := match c1 with | .region _ x _ => x | _ => #[]
theorem e1 : c1 = .region 0 r1 false := by kernel_rfl
theorem e2 : c2 = .block 0 c3 := by kernel_rfl
theorem e3 : c3 = .loop c4 := by kernel_rfl
theorem e4 : c4 = .seq c5 c6 := by kernel_rfl
noncomputable def r5 : Array Oper := match c5 with | .region _ x _ => x | _ => #[]
theorem e5 : c5 = .region 1 r5 false := by kernel_rfl
theorem e6 : c6 = .seq c7 c10 := by kernel_rfl
theorem e7 : c7 = .cond (.tmp 8) c8 c9 := by kernel_rfl
theorem e8 : c8 = .skip := by kernel_rfl
theorem e9 : c9 = .exit 0 := by kernel_rfl
theorem e10 : c10 = .seq c11 c19 := by kernel_rfl
theorem e11 : c11 = .block 1 c12 := by kernel_rfl
theorem e12 : c12 = .seq c13 c14 := by kernel_rfl
noncomputable def r13 : Array Oper := match c13 with | .region _ x _ => x | _ => #[]
theorem e13 : c13 = .region 2 r13 false := by kernel_rfl
theorem e14 : c14 = .seq c15 c16 := by kernel_rfl
noncomputable def r15 : Array Oper := match c15 with | .region _ x _ => x | _ => #[]
theorem e15 : c15 = .region 3 r15 false := by kernel_rfl
theorem e16 : c16 = .cond (.tmp 17) c17 c18 := by kernel_rfl
theorem e17 : c17 = .ret := by kernel_rfl
theorem e18 : c18 = .skip := by kernel_rfl
noncomputable def r19 : Array Oper := match c19 with | .region _ x _ => x | _ => #[]
theorem e19 : c19 = .region 4 r19 false := by kernel_rfl
theorem body : Try.f69.body = some c0 := by kernel_rfl
section
variable {base : Nat} {W0 : World} {β0 : Bt}
def L0 (D : Dp) (H : Hd) (k : Nat) : Nat → HV → Sl → Int → Int → HS → Option ((Unit) × HS)
  | 0, _, _, _, _, _ => none
  | n + 1, y0, y5, y6, y7, S =>
    (if y7 < y6 then
    (Option.bind (HS.idx S y5 y7 2) fun p4 =>
    (Option.bind (HS.ldS S (HA.fld p4 0)) fun p5 =>
    (Option.bind (HS.ldI S .i64 (HA.fld p4 1)) fun p6 =>
    (letv (HS.new S (.cells 2 [[(.str []), (.int .i64 0)]] true)) fun p7 =>
    (Option.bind (HS.sets p7 (HA.cell0 S.next) [(.str p5), (.int .i64 p6)]) fun p8 =>
    (Option.bind (HS.ldS p8 (HA.fld (HA.cell0 S.next) 0)) fun p9 =>
    (Option.bind (HS.ldI p8 .i64 (HA.fld (HA.cell0 S.next) 1)) fun p10 =>
    (Option.bind (D H y0 [(.str p9), (.int .i64 p10)] p8) fun p11 =>
    (Option.bind (dB p11.1) fun p12 =>
    (if (!p12) = true then
    some ((), p11.2) else
    (L0 D H k n) y0 y5 y6 (w64 (y7 + 1)) p11.2)))))))))) else
    some ((), S))
theorem L0_snd {D : Dp} {H : Hd} {k : Nat} (hD : DSound Try.prog base W0 D) (hH : HSound Try.prog base W0 β0 H)  : ∀ {n : Nat} ⦃y0 : HV⦄ ⦃y5 : Sl⦄ ⦃y6 : Int⦄ ⦃y7 : Int⦄ ⦃S : HS⦄ ⦃p : (Unit) × HS⦄ ⦃g1 g2 g3 g4 g8 g9 g10 g11 g12 g13 g14 g15 g16 g17 g18 : HV⦄, L0 D H k n y0 y5 y6 y7 S = some p → HRun Try.prog base W0 β0 69 none [.inLoop c4, .inBlock 0] ⟨[y0, g1, g2, g3, g4, (Sl.hv y5), (.int .i64 y6), (.int .i64 y7), g8, g9, g10, g11, g12, g13, g14, g15, g16, g17, g18], []⟩ S (fun v S1 => v = (.tup []) ∧ S1 = p.2) := by
  intro n
  induction n with
  | zero => intro _ _ _ _ _ _ _ _ _ _ _ _ _ _ _ _ _ _ _ _ _ h; cases h
  | succ n ih =>
    intro y0 y5 y6 y7 S p g1 g2 g3 g4 g8 g9 g10 g11 g12 g13 g14 g15 g16 g17 g18 h
    simp only [L0] at h
    refine hr_inLoop ?_
    refine q_seq e4 ?_
    refine q_region e5 rfl ?_
    refine q_op (dst := some 8) rfl (fun _ ho => ok_ibin ho (.tmp rfl) (.tmp rfl) rfl) ?_
    refine hr_region_end ?_
    try dsimp only [HAct.put, List.set_cons_zero, List.set_cons_succ]
    refine q_seq e6 ?_
    rcases ifc h with ⟨hc3, h⟩ | ⟨hc3, h⟩
    · refine q_cond_t e7 (.tmp rfl) (decide_eq_true hc3) ?_
      refine q_skipc e8 ?_
      refine q_seq e10 ?_
      refine q_block e11 ?_
      refine q_seq e12 ?_
      refine q_region e13 rfl ?_
      obtain ⟨p4, hp4, h⟩ := bindo h
      refine q_op (dst := some 9) rfl (fun _ ho => ok_indexAddr (s := y5) ho tu85 sz90 (.tmp rfl) (.tmp rfl) hp4) ?_
      obtain ⟨p5, hp5, h⟩ := bindo h
      obtain ⟨p6, hp6, h⟩ := bindo h
      refine q_op (dst := some 10) rfl (fun _ ho => ok_load_a (vs := [(.str p5), (.int .i64 p6)]) ho ia90 (.tmp rfl) rfl ⟨ldS_out hp5, ldI_out hp6, trivial⟩ (by simp)) ?_
      obtain ⟨p7, hp7, h⟩ := leto h
      refine q_op (dst := some 4) rfl (fun _ ho => ok_alloc_e ho zi90 zr90 (by decide) rfl hp7) ?_
      obtain ⟨p8, hp8, h⟩ := bindo h
      refine q_op (dst := none) rfl (fun _ ho => ok_store_s (v := (.agg [(.str p5), (.int .i64 p6)])) ho sz90 (.tmp rfl) rfl (.tmp rfl) rfl hp8) ?_
      refine hr_region_end ?_
      try dsimp only [HAct.put, List.set_cons_zero, List.set_cons_succ]
      refine q_seq e14 ?_
      refine q_region e15 rfl ?_
      refine q_op (dst := some 11) rfl (fun _ ho => ok_move ho (.tmp rfl)) ?_
      refine q_op (dst := some 12) rfl (fun _ ho => ok_fieldAddr_s ho fi90_0 (by decide) (.tmp rfl) rfl) ?_
      obtain ⟨p9, hp9, h⟩ := bindo h
      refine q_op (dst := some 13) rfl (fun _ ho => ok_load_s ho sc9 (.tmp rfl) rfl (ldS_out hp9)) ?_
      refine q_op (dst := some 14) rfl (fun _ ho => ok_fieldAddr_s ho fi90_1 (by decide) (.tmp rfl) rfl) ?_
      try dsimp only [HAct.put, List.set_cons_zero, List.set_cons_succ]
      obtain ⟨p10, hp10, h⟩ := bindo h
      refine q_op (dst := some 15) rfl (fun _ ho => ok_load_s ho sc3 (.tmp rfl) rfl (ldI_out hp10)) ?_
      obtain ⟨p11, hp11, h⟩ := bindo h
      obtain ⟨p12, hp12, h⟩ := bindo h
      refine q_call (dst := some 16) rfl (.tmp rfl) (.cons (.tmp rfl) (.cons (.tmp rfl) Evs.nil)) (hD _ _ hH _ _ _ _ _ hp11) ?_
      rintro _ _ ⟨rfl, rfl⟩
      rw [dB_out hp12]
      refine q_op (dst := some 17) rfl (fun _ ho => ok_not ho (.tmp rfl)) ?_
      refine hr_region_end ?_
      try dsimp only [HAct.put, List.set_cons_zero, List.set_cons_succ]
      rcases ifc h with ⟨hc13, h⟩ | ⟨hc13, h⟩
      · refine q_cond_t e16 (.tmp rfl) hc13 ?_
        cases h
        exact q_ret e17 at_.at_ rfl (res0 rfl) ⟨rfl, rfl⟩
      · refine q_cond_f e16 (.tmp rfl) (bfalse hc13) ?_
        refine q_skipc e18 ?_
        refine hr_inBlock ?_
        refine q_region e19 rfl ?_
        refine q_op (dst := some 18) rfl (fun _ ho => ok_ibin ho (.tmp rfl) (.int _ _) rfl) ?_
        refine q_op (dst := some 7) rfl (fun _ ho => ok_move ho (.tmp rfl)) ?_
        refine hr_region_end ?_
        try dsimp only [HAct.put, List.set_cons_zero, List.set_cons_succ]
        try dsimp only [HAct.put, List.set_cons_zero, List.set_cons_succ]
        exact ih h
    · refine q_cond_f e7 (.tmp rfl) (decide_eq_false hc3) ?_
      refine q_exit e9 rfl ?_
      cases h
      exact q_end at_.at_ rfl (res0 rfl) ⟨rfl, rfl⟩
def f (D : Dp) (H : Hd) (k : Nat) (x0 : HV) (x1 : (Option HA)) (S : HS) : Option ((Unit) × HS) :=
  (Option.bind (x1) fun p1 =>
  (Option.bind (HS.ldSl S p1) fun p2 =>
  L0 D H k k x0 p2 (Sl.len p2 : Int) 0 S))
theorem snd {D : Dp} {H : Hd} {k : Nat} {x0 : HV} {x1 : (Option HA)} {S : HS} (hD : DSound Try.prog base W0 D) (hH : HSound Try.prog base W0 β0 H)  {p : (Unit) × HS} (h : f D H k x0 x1 S = some p) : HCall Try.prog base W0 β0 69 [x0, (.ptr x1)] S (fun v S1 => v = (.tup []) ∧ S1 = p.2) := by
  unfold f at h
  refine HCall.of_run at_.at_ body ?_
  show HRun Try.prog base W0 β0 69 none [.code c0] ⟨[x0, (.ptr x1), .tup [], .tup [], .tup [], .tup [], .tup [], .tup [], .tup [], .tup [], .tup [], .tup [], .tup [], .tup [], .tup [], .tup [], .tup [], .tup [], .tup []], []⟩ S _
  refine q_seq e0 ?_
  refine q_region e1 rfl ?_
  obtain ⟨p1, hp1, h⟩ := bindo h
  obtain ⟨p2, hp2, h⟩ := bindo h
  refine q_op (dst := some 5) rfl (fun _ ho => ok_load_s ho sc85 (.tmp rfl) hp1 (ldSl_out hp2)) ?_
  refine q_op (dst := some 6) rfl (fun _ ho => ok_len_sl (q := Sl.a p2) (n := Sl.len p2) (z := Sl.cap p2) ho rfl tu85 (.tmp rfl)) ?_
  refine q_op (dst := some 7) rfl (fun _ ho => ok_move ho (.int _ _)) ?_
  refine hr_region_end ?_
  try dsimp only [HAct.put, List.set_cons_zero, List.set_cons_succ]
  refine q_block e2 ?_
  refine q_loop e3 ?_
  try dsimp only [HAct.put, List.set_cons_zero, List.set_cons_succ]
  exact L0_snd hD hH h
end
end book_told_int_1
namespace book_told_int
abbrev id : Nat := 62
theorem at_ : FnAt Try.prog 62 Try.f62 := ⟨Try.func62, by kernel_rfl⟩
noncomputable def c0 : Code := (Try.f62.body).getD .skip
noncomputable def c1 : Code := match c0 with | .seq x _ => x | _ => .skip
noncomputable def c2 : Code := match c0 with | .seq _ x => x | _ => .skip
noncomputable def c3 : Code := match c2 with | .seq x _ => x | _ => .skip
noncomputable def c4 : Code := match c2 with | .seq _ x => x | _ => .skip
theorem e0 : c0 = .seq c1 c2 := by kernel_rfl
noncomputable def r1 : Array Oper := match c1 with | .region _ x _ => x | _ => #[]
theorem e1 : c1 = .region 0 r1 false := by kernel_rfl
theorem e2 : c2 = .seq c3 c4 := by kernel_rfl
noncomputable def r3 : Array Oper := match c3 with | .region _ x _ => x | _ => #[]
theorem e3 : c3 = .region 1 r3 false := by kernel_rfl
theorem e4 : c4 = .ret := by kernel_rfl
theorem body : Try.f62.body = some c0 := by kernel_rfl
section
variable {base : Nat} {W0 : World} {β0 : Bt}
def f (x0 : Sl) (S : HS) : Option ((HV) × HS) :=
  (letv (HS.new S (.cells 1 [[(Sl.hv x0)]] true)) fun p1 =>
  some ((HV.fn (.func 69) [] [(.ptr (some (HA.cell0 S.next)))]), p1))
theorem snd {x0 : Sl} {S : HS}  {p : (HV) × HS} (h : f x0 S = some p) : HCall Try.prog base W0 β0 62 [(Sl.hv x0)] S (fun v S1 => v = p.1 ∧ S1 = p.2) := by
  unfold f at h
  refine HCall.of_run at_.at_ body ?_
  show HRun Try.prog base W0 β0 62 none [.code c0] ⟨[(Sl.hv x0), .tup [], .tup [], .tup []], []⟩ S _
  refine q_seq e0 ?_
  refine q_region e1 rfl ?_
  obtain ⟨p1, hp1, h⟩ := leto h
  refine q_op (dst := some 1) rfl (fun _ ho => ok_box_e ho (.tmp rfl) (Nat.zero_lt_succ _) rfl hp1) ?_
  refine q_op (dst := some 2) rfl (fun _ ho => ok_assign ho (.const fun _ => .nilFn)) ?_
  refine hr_region_end ?_
  try dsimp only [HAct.put, List.set_cons_zero, List.set_cons_succ]
  refine q_seq e2 ?_
  refine q_region e3 rfl ?_
  refine q_op (dst := some 3) rfl (fun _ ho => ok_makeFunc ho Evs.nil (.cons (.tmp rfl) Evs.nil)) ?_
  refine q_op (dst := some 2) rfl (fun _ ho => ok_assign ho (.tmp rfl)) ?_
  refine hr_region_end ?_
  try dsimp only [HAct.put, List.set_cons_zero, List.set_cons_succ]
  cases h
  exact q_ret e4 at_.at_ rfl (res1 rfl rfl) ⟨rfl, rfl⟩
end
end book_told_int
namespace book_Book_int_All
abbrev id : Nat := 46
theorem at_ : FnAt Try.prog 46 Try.f46 := ⟨Try.func46, by kernel_rfl⟩
noncomputable def c0 : Code := (Try.f46.body).getD .skip
noncomputable def c1 : Code := match c0 with | .seq x _ => x | _ => .skip
noncomputable def c2 : Code := match c0 with | .seq _ x => x | _ => .skip
noncomputable def c3 : Code := match c2 with | .seq x _ => x | _ => .skip
noncomputable def c4 : Code := match c3 with | .seq x _ => x | _ => .skip
noncomputable def c5 : Code := match c3 with | .seq _ x => x | _ => .skip
noncomputable def c6 : Code := match c5 with | .cond _ x _ => x | _ => .skip
noncomputable def c7 : Code := match c6 with | .seq x _ => x | _ => .skip
noncomputable def c8 : Code := match c6 with | .seq _ x => x | _ => .skip
noncomputable def c9 : Code := match c5 with | .cond _ _ x => x | _ => .skip
noncomputable def c10 : Code := match c2 with | .seq _ x => x | _ => .skip
noncomputable def c11 : Code := match c10 with | .seq x _ => x | _ => .skip
noncomputable def c12 : Code := match c10 with | .seq _ x => x | _ => .skip
theorem e0 : c0 = .seq c1 c2 := by kernel_rfl
noncomputable def r1 : Array Oper := match c1 with | .region _ x _ => x | _ => #[]
theorem e1 : c1 = .region 0 r1 false := by kernel_rfl
theorem e2 : c2 = .seq c3 c10 := by kernel_rfl
theorem e3 : c3 = .seq c4 c5 := by kernel_rfl
noncomputable def r4 : Array Oper := match c4 with | .region _ x _ => x | _ => #[]
theorem e4 : c4 = .region 1 r4 false := by kernel_rfl
theorem e5 : c5 = .cond (.tmp 4) c6 c9 := by kernel_rfl
theorem e6 : c6 = .seq c7 c8 := by kernel_rfl
noncomputable def r7 : Array Oper := match c7 with | .region _ x _ => x | _ => #[]
theorem e7 : c7 = .region 2 r7 false := by kernel_rfl
theorem e8 : c8 = .ret := by kernel_rfl
theorem e9 : c9 = .skip := by kernel_rfl
theorem e10 : c10 = .seq c11 c12 := by kernel_rfl
noncomputable def r11 : Array Oper := match c11 with | .region _ x _ => x | _ => #[]
theorem e11 : c11 = .region 3 r11 false := by kernel_rfl
theorem e12 : c12 = .ret := by kernel_rfl
theorem body : Try.f46.body = some c0 := by kernel_rfl
section
variable {base : Nat} {W0 : World} {β0 : Bt}
def f (x0 : (Option HA)) (S : HS) : Option ((HV) × HS) :=
  (if (Option.isNone x0) = true then
  some ((HV.fn (.func 64) [] []), S) else
  (Option.bind (x0) fun p2 =>
  (Option.bind (HS.ldSl S (HA.fld p2 1)) fun p3 =>
  (Option.bind (slices_Clone_book_entry_int_book_entry_int.f p3 S) fun p4 =>
  (Option.bind (book_told_int.f p4.1 p4.2) fun p5 =>
  some (p5.1, p5.2))))))
theorem snd {x0 : (Option HA)} {S : HS}  {p : (HV) × HS} (h : f x0 S = some p) : HCall Try.prog base W0 β0 46 [(.ptr x0)] S (fun v S1 => v = p.1 ∧ S1 = p.2) := by
  unfold f at h
  refine HCall.of_run at_.at_ body ?_
  show HRun Try.prog base W0 β0 46 none [.code c0] ⟨[(.ptr x0), .tup [], .tup [], .tup [], .tup [], .tup [], .tup [], .tup [], .tup [], .tup [], .tup []], []⟩ S _
  refine q_seq e0 ?_
  refine q_region e1 rfl ?_
  refine q_op (dst := some 2) rfl (fun _ ho => ok_assign ho (.const fun _ => .nilFn)) ?_
  refine hr_region_end ?_
  try dsimp only [HAct.put, List.set_cons_zero, List.set_cons_succ]
  refine q_seq e2 ?_
  refine q_seq e3 ?_
  refine q_region e4 rfl ?_
  refine q_op (dst := some 3) rfl (fun _ ho => ok_move ho (.tmp rfl)) ?_
  refine q_op (dst := some 4) rfl (fun _ ho => ok_nil_ptr ho tu44 (.tmp rfl) (.inl ⟨rfl, rfl⟩)) ?_
  refine hr_region_end ?_
  try dsimp only [HAct.put, List.set_cons_zero, List.set_cons_succ]
  rcases ifc h with ⟨hc1, h⟩ | ⟨hc1, h⟩
  · refine q_cond_t e5 (.tmp rfl) hc1 ?_
    refine q_seq e6 ?_
    refine q_region e7 rfl ?_
    refine q_op (dst := some 2) rfl (fun _ ho => ok_assign ho (.func _)) ?_
    refine hr_region_end ?_
    try dsimp only [HAct.put, List.set_cons_zero, List.set_cons_succ]
    cases h
    exact q_ret e8 at_.at_ rfl (res1 rfl rfl) ⟨rfl, rfl⟩
  · refine q_cond_f e5 (.tmp rfl) (bfalse hc1) ?_
    refine q_skipc e9 ?_
    refine q_seq e10 ?_
    refine q_region e11 rfl ?_
    refine q_op (dst := some 5) rfl (fun _ ho => ok_move ho (.tmp rfl)) ?_
    obtain ⟨p2, hp2, h⟩ := bindo h
    refine q_op (dst := some 6) rfl (fun _ ho => ok_nilCheck_p ho (.tmp rfl) hp2) ?_
    refine q_op (dst := some 7) rfl (fun _ ho => ok_fieldAddr_s ho fi87_1 (by decide) (.tmp rfl) rfl) ?_
    obtain ⟨p3, hp3, h⟩ := bindo h
    refine q_op (dst := some 8) rfl (fun _ ho => ok_load_s ho sc85 (.tmp rfl) rfl (ldSl_out hp3)) ?_
    try dsimp only [HAct.put, List.set_cons_zero, List.set_cons_succ]
    obtain ⟨p4, hp4, h⟩ := bindo h
    refine q_call (dst := some 9) rfl (.func _) (.cons (.tmp rfl) Evs.nil) (HInv.static slices_Clone_book_entry_int_book_entry_int.at_ slices_Clone_book_entry_int_book_entry_int.body (slices_Clone_book_entry_int_book_entry_int.snd  hp4)) ?_
    rintro _ _ ⟨rfl, rfl⟩
    obtain ⟨p5, hp5, h⟩ := bindo h
    refine q_call (dst := some 10) rfl (.func _) (.cons (.tmp rfl) Evs.nil) (HInv.static book_told_int.at_ book_told_int.body (book_told_int.snd  hp5)) ?_
    rintro _ _ ⟨rfl, rfl⟩
    refine q_op (dst := some 2) rfl (fun _ ho => ok_assign ho (.tmp rfl)) ?_
    refine hr_region_end ?_
    try dsimp only [HAct.put, List.set_cons_zero, List.set_cons_succ]
    cases h
    exact q_ret e12 at_.at_ rfl (res1 rfl rfl) ⟨rfl, rfl⟩
end
end book_Book_int_All
namespace book_Book_int_From
abbrev id : Nat := 45
theorem at_ : FnAt Try.prog 45 Try.f45 := ⟨Try.func45, by kernel_rfl⟩
noncomputable def c0 : Code := (Try.f45.body).getD .skip
noncomputable def c1 : Code := match c0 with | .seq x _ => x | _ => .skip
noncomputable def c2 : Code := match c0 with | .seq _ x => x | _ => .skip
noncomputable def c3 : Code := match c2 with | .seq x _ => x | _ => .skip
noncomputable def c4 : Code := match c2 with | .seq _ x => x | _ => .skip
noncomputable def c5 : Code := match c4 with | .seq x _ => x | _ => .skip
noncomputable def c6 : Code := match c5 with | .seq x _ => x | _ => .skip
noncomputable def c7 : Code := match c5 with | .seq _ x => x | _ => .skip
noncomputable def c8 : Code := match c7 with | .cond _ x _ => x | _ => .skip
noncomputable def c9 : Code := match c8 with | .seq x _ => x | _ => .skip
noncomputable def c10 : Code := match c8 with | .seq _ x => x | _ => .skip
noncomputable def c11 : Code := match c7 with | .cond _ _ x => x | _ => .skip
noncomputable def c12 : Code := match c4 with | .seq _ x => x | _ => .skip
noncomputable def c13 : Code := match c12 with | .seq x _ => x | _ => .skip
noncomputable def c14 : Code := match c12 with | .seq _ x => x | _ => .skip
theorem e0 : c0 = .seq c1 c2 := by kernel_rfl
noncomputable def r1 : Array Oper := match c1 with | .region _ x _ => x | _ => #[]
theorem e1 : c1 = .region 0 r1 false := by kernel_rfl
theorem e2 : c2 = .seq c3 c4 := by kernel_rfl
noncomputable def r3 : Array Oper := match c3 with | .region _ x _ => x | _ => #[]
theorem e3 : c3 = .region 1 r3 false := by kernel_rfl
theorem e4 : c4 = .seq c5 c12 := by kernel_rfl
theorem e5 : c5 = .seq c6 c7 := by kernel_rfl
noncomputable def r6 : Array Oper := match c6 with | .region _ x _ => x | _ => #[]
theorem e6 : c6 = .region 2 r6 false := by kernel_rfl
theorem e7 : c7 = .cond (.tmp 14) c8 c11 := by kernel_rfl
theorem e8 : c8 = .seq c9 c10 := by kernel_rfl
noncomputable def r9 : Array Oper := match c9 with | .region _ x _ => x | _ => #[]
theorem e9 : c9 = .region 3 r9 false := by kernel_rfl
theorem e10 : c10 = .ret := by kernel_rfl
theorem e11 : c11 = .skip := by kernel_rfl
theorem e12 : c12 = .seq c13 c14 := by kernel_rfl
noncomputable def r13 : Array Oper := match c13 with | .region _ x _ => x | _ => #[]
theorem e13 : c13 = .region 4 r13 false := by kernel_rfl
theorem e14 : c14 = .ret := by kernel_rfl
theorem body : Try.f45.body = some c0 := by kernel_rfl
section
variable {base : Nat} {W0 : World} {β0 : Bt}
def f (D : Dp) (H : Hd) (k : Nat) (x0 : (Option HA)) (x1 : (List UInt8)) (S : HS) : Option ((HV) × HS) :=
  (Option.bind (book_Book_int_at.f D H k x0 x1 S) fun p1 =>
  (if (Option.isNone x0) = true then
  (Option.bind (book_Book_int_All.f x0 p1.2) fun p3 =>
  some (p3.1, p3.2)) else
  (Option.bind (x0) fun p4 =>
  (Option.bind (HS.ldSl p1.2 (HA.fld p4 1)) fun p5 =>
  (Option.bind (HS.cut p1.2 p5 p1.1.1 (Sl.len p5 : Int) 2) fun p6 =>
  (Option.bind (slices_Clone_book_entry_int_book_entry_int.f p6 p1.2) fun p7 =>
  (Option.bind (book_told_int.f p7.1 p7.2) fun p8 =>
  some (p8.1, p8.2))))))))
theorem snd {D : Dp} {H : Hd} {k : Nat} {x0 : (Option HA)} {x1 : (List UInt8)} {S : HS} (hD : DSound Try.prog base W0 D) (hH : HSound Try.prog base W0 β0 H)  {p : (HV) × HS} (h : f D H k x0 x1 S = some p) : HCall Try.prog base W0 β0 45 [(.ptr x0), (.str x1)] S (fun v S1 => v = p.1 ∧ S1 = p.2) := by
  unfold f at h
  refine HCall.of_run at_.at_ body ?_
  show HRun Try.prog base W0 β0 45 none [.code c0] ⟨[(.ptr x0), (.str x1), .tup [], .tup [], .tup [], .tup [], .tup [], .tup [], .tup [], .tup [], .tup [], .tup [], .tup [], .tup [], .tup [], .tup [], .tup [], .tup [], .tup [], .tup [], .tup [], .tup [], .tup [], .tup [], .tup []], []⟩ S _
  refine q_seq e0 ?_
  refine q_region e1 rfl ?_
  refine q_op (dst := some 4) rfl (fun _ ho => ok_assign ho (.const fun _ => .nilFn)) ?_
  refine hr_region_end ?_
  try dsimp only [HAct.put, List.set_cons_zero, List.set_cons_succ]
  refine q_seq e2 ?_
  refine q_region e3 rfl ?_
  refine q_op (dst := some 8) rfl (fun _ ho => ok_move ho (.tmp rfl)) ?_
  refine q_op (dst := some 9) rfl (fun _ ho => ok_move ho (.tmp rfl)) ?_
  obtain ⟨p1, hp1, h⟩ := bindo h
  refine q_call (dst := some 10) rfl (.func _) (.cons (.tmp rfl) (.cons (.tmp rfl) Evs.nil)) (HInv.static book_Book_int_at.at_ book_Book_int_at.body (book_Book_int_at.snd hD hH hp1)) ?_
  rintro _ _ ⟨rfl, rfl⟩
  refine q_op (dst := some 7) rfl (fun _ ho => ok_move ho (.tmp rfl)) ?_
  try dsimp only [HAct.put, List.set_cons_zero, List.set_cons_succ]
  refine q_op (dst := some 11) rfl (fun _ ho => ok_extract ho (.tmp rfl) rfl) ?_
  refine q_op (dst := some 12) rfl (fun _ ho => ok_extract ho (.tmp rfl) rfl) ?_
  refine q_op (dst := some 5) rfl (fun _ ho => ok_assign ho (.tmp rfl)) ?_
  refine q_op (dst := some 6) rfl (fun _ ho => ok_assign ho (.tmp rfl)) ?_
  refine hr_region_end ?_
  try dsimp only [HAct.put, List.set_cons_zero, List.set_cons_succ]
  refine q_seq e4 ?_
  refine q_seq e5 ?_
  refine q_region e6 rfl ?_
  refine q_op (dst := some 13) rfl (fun _ ho => ok_move ho (.tmp rfl)) ?_
  refine q_op (dst := some 14) rfl (fun _ ho => ok_nil_ptr ho tu44 (.tmp rfl) (.inl ⟨rfl, rfl⟩)) ?_
  refine hr_region_end ?_
  try dsimp only [HAct.put, List.set_cons_zero, List.set_cons_succ]
  rcases ifc h with ⟨hc2, h⟩ | ⟨hc2, h⟩
  · refine q_cond_t e7 (.tmp rfl) hc2 ?_
    refine q_seq e8 ?_
    refine q_region e9 rfl ?_
    refine q_op (dst := some 15) rfl (fun _ ho => ok_move ho (.tmp rfl)) ?_
    obtain ⟨p3, hp3, h⟩ := bindo h
    refine q_call (dst := some 16) rfl (.func _) (.cons (.tmp rfl) Evs.nil) (HInv.static book_Book_int_All.at_ book_Book_int_All.body (book_Book_int_All.snd  hp3)) ?_
    rintro _ _ ⟨rfl, rfl⟩
    refine q_op (dst := some 4) rfl (fun _ ho => ok_assign ho (.tmp rfl)) ?_
    refine hr_region_end ?_
    try dsimp only [HAct.put, List.set_cons_zero, List.set_cons_succ]
    cases h
    exact q_ret e10 at_.at_ rfl (res1 rfl rfl) ⟨rfl, rfl⟩
  · refine q_cond_f e7 (.tmp rfl) (bfalse hc2) ?_
    refine q_skipc e11 ?_
    refine q_seq e12 ?_
    refine q_region e13 rfl ?_
    refine q_op (dst := some 17) rfl (fun _ ho => ok_move ho (.tmp rfl)) ?_
    obtain ⟨p4, hp4, h⟩ := bindo h
    refine q_op (dst := some 18) rfl (fun _ ho => ok_nilCheck_p ho (.tmp rfl) hp4) ?_
    refine q_op (dst := some 19) rfl (fun _ ho => ok_fieldAddr_s ho fi87_1 (by decide) (.tmp rfl) rfl) ?_
    obtain ⟨p5, hp5, h⟩ := bindo h
    refine q_op (dst := some 20) rfl (fun _ ho => ok_load_s ho sc85 (.tmp rfl) rfl (ldSl_out hp5)) ?_
    try dsimp only [HAct.put, List.set_cons_zero, List.set_cons_succ]
    refine q_op (dst := some 21) rfl (fun _ ho => ok_move ho (.tmp rfl)) ?_
    obtain ⟨p6, hp6, h⟩ := bindo h
    refine q_op (dst := some 22) rfl (fun _ ho => ok_slice (kl := .i64) (kh := .i64) (s := p5) (l := p1.1.1) (h := (Sl.len p5 : Int)) ho tu85 si90 (.tmp rfl) (.inr ⟨_, rfl, (.tmp rfl)⟩) (.inl ⟨rfl, rfl⟩) hp6) ?_
    obtain ⟨p7, hp7, h⟩ := bindo h
    refine q_call (dst := some 23) rfl (.func _) (.cons (.tmp rfl) Evs.nil) (HInv.static slices_Clone_book_entry_int_book_entry_int.at_ slices_Clone_book_entry_int_book_entry_int.body (slices_Clone_book_entry_int_book_entry_int.snd  hp7)) ?_
    rintro _ _ ⟨rfl, rfl⟩
    obtain ⟨p8, hp8, h⟩ := bindo h
    refine q_call (dst := some 24) rfl (.func _) (.cons (.tmp rfl) Evs.nil) (HInv.static book_told_int.at_ book_told_int.body (book_told_int.snd  hp8)) ?_
    rintro _ _ ⟨rfl, rfl⟩
    try dsimp only [HAct.put, List.set_cons_zero, List.set_cons_succ]
    refine q_op (dst := some 4) rfl (fun _ ho => ok_assign ho (.tmp rfl)) ?_
    refine hr_region_end ?_
    try dsimp only [HAct.put, List.set_cons_zero, List.set_cons_succ]
    cases h
    exact q_ret e14 at_.at_ rfl (res1 rfl rfl) ⟨rfl, rfl⟩
end
end book_Book_int_From
namespace rollcalllaw02_same
abbrev id : Nat := 29
theorem at_ : FnAt Try.prog 29 Try.f29 := ⟨Try.func29, by kernel_rfl⟩
noncomputable def c0 : Code := (Try.f29.body).getD .skip
noncomputable def c1 : Code := match c0 with | .seq x _ => x | _ => .skip
noncomputable def c2 : Code := match c0 with | .seq _ x => x | _ => .skip
noncomputable def c3 : Code := match c2 with | .seq x _ => x | _ => .skip
noncomputable def c4 : Code := match c2 with | .seq _ x => x | _ => .skip
noncomputable def c5 : Code := match c4 with | .seq x _ => x | _ => .skip
noncomputable def c6 : Code := match c4 with | .seq _ x => x | _ => .skip
noncomputable def c7 : Code := match c6 with | .seq x _ => x | _ => .skip
noncomputable def c8 : Code := match c6 with | .seq _ x => x | _ => .skip
noncomputable def c9 : Code := match c8 with | .seq x _ => x | _ => .skip
noncomputable def c10 : Code := match c9 with | .seq x _ => x | _ => .skip
noncomputable def c11 : Code := match c9 with | .seq _ x => x | _ => .skip
noncomputable def c12 : Code := match c11 with | .cond _ x _ => x | _ => .skip
noncomputable def c13 : Code := match c11 with | .cond _ _ x => x | _ => .skip
noncomputable def c14 : Code := match c8 with | .seq _ x => x | _ => .skip
noncomputable def c15 : Code := match c14 with | .seq x _ => x | _ => .skip
noncomputable def c16 : Code := match c15 with | .seq x _ => x | _ => .skip
noncomputable def c17 : Code := match c15 with | .seq _ x => x | _ => .skip
noncomputable def c18 : Code := match c17 with | .cond _ x _ => x | _ => .skip
noncomputable def c19 : Code := match c18 with | .seq x _ => x | _ => .skip
noncomputable def c20 : Code := match c18 with | .seq _ x => x | _ => .skip
noncomputable def c21 : Code := match c17 with | .cond _ _ x => x | _ => .skip
noncomputable def c22 : Code := match c14 with | .seq _ x => x | _ => .skip
noncomputable def c23 : Code := match c22 with | .seq x _ => x | _ => .skip
noncomputable def c24 : Code := match c23 with | .seq x _ => x | _ => .skip
noncomputable def c25 : Code := match c23 with | .seq _ x => x | _ => .skip
noncomputable def c26 : Code := match c25 with | .block _ x => x | _ => .skip
noncomputable def c27 : Code := match c26 with | .rangeFunc _ _ x _ => x | _ => .skip
noncomputable def c28 : Code := match c27 with | .seq x _ => x | _ => .skip
noncomputable def c29 : Code := match c27 with | .seq _ x => x | _ => .skip
noncomputable def c30 : Code := match c26 with | .rangeFunc _ _ _ x => x | _ => .skip
noncomputable def c31 : Code := match c30 with | .block _ x => x | _ => .skip
noncomputable def c32 : Code := match c31 with | .seq x _ => x | _ => .skip
noncomputable def c33 : Code := match c32 with | .seq x _ => x | _ => .skip
noncomputable def c34 : Code := match c32 with | .seq _ x => x | _ => .skip
noncomputable def c35 : Code := match c34 with | .cond _ x _ => x | _ => .skip
noncomputable def c36 : Code := match c35 with | .seq x _ => x | _ => .skip
noncomputable def c37 : Code := match c35 with | .seq _ x => x | _ => .skip
noncomputable def c38 : Code := match c34 with | .cond _ _ x => x | _ => .skip
noncomputable def c39 : Code := match c31 with | .seq _ x => x | _ => .skip
noncomputable def c40 : Code := match c39 with | .seq x _ => x | _ => .skip
noncomputable def c41 : Code := match c39 with | .seq _ x => x | _ => .skip
noncomputable def c42 : Code := match c22 with | .seq _ x => x | _ => .skip
noncomputable def c43 : Code := match c42 with | .seq x _ => x | _ => .skip
noncomputable def c44 : Code := match c42 with | .seq _ x => x | _ => .skip
theorem e0 : c0 = .seq c1 c2 := by kernel_rfl
noncomputable def r1 : Array Oper := match c1 with | .region _ x _ => x | _ => #[]
theorem e1 : c1 = .region 0 r1 false := by kernel_rfl
theorem e2 : c2 = .seq c3 c4 := by kernel_rfl
noncomputable def r3 : Array Oper := match c3 with | .region _ x _ => x | _ => #[]
theorem e3 : c3 = .region 1 r3 false := by kernel_rfl
theorem e4 : c4 = .seq c5 c6 := by kernel_rfl
noncomputable def r5 : Array Oper := match c5 with | .region _ x _ => x | _ => #[]
theorem e5 : c5 = .region 2 r5 false := by kernel_rfl
theorem e6 : c6 = .seq c7 c8 := by kernel_rfl
noncomputable def r7 : Array Oper := match c7 with | .region _ x _ => x | _ => #[]
theorem e7 : c7 = .region 3 r7 false := by kernel_rfl
theorem e8 : c8 = .seq c9 c14 := by kernel_rfl
theorem e9 : c9 = .seq c10 c11 := by kernel_rfl
noncomputable def r10 : Array Oper := match c10 with | .region _ x _ => x | _ => #[]
theorem e10 : c10 = .region 4 r10 false := by kernel_rfl
theorem e11 : c11 = .cond (.tmp 17) c12 c13 := by kernel_rfl
noncomputable def r12 : Array Oper := match c12 with | .region _ x _ => x | _ => #[]
theorem e12 : c12 = .region 5 r12 false := by kernel_rfl
theorem e13 : c13 = .skip := by kernel_rfl
theorem e14 : c14 = .seq c15 c22 := by kernel_rfl
theorem e15 : c15 = .seq c16 c17 := by kernel_rfl
noncomputable def r16 : Array Oper := match c16 with | .region _ x _ => x | _ => #[]
theorem e16 : c16 = .region 6 r16 false := by kernel_rfl
theorem e17 : c17 = .cond (.tmp 21) c18 c21 := by kernel_rfl
theorem e18 : c18 = .seq c19 c20 := by kernel_rfl
noncomputable def r19 : Array Oper := match c19 with | .region _ x _ => x | _ => #[]
theorem e19 : c19 = .region 7 r19 false := by kernel_rfl
theorem e20 : c20 = .ret := by kernel_rfl
theorem e21 : c21 = .skip := by kernel_rfl
theorem e22 : c22 = .seq c23 c42 := by kernel_rfl
theorem e23 : c23 = .seq c24 c25 := by kernel_rfl
noncomputable def r24 : Array Oper := match c24 with | .region _ x _ => x | _ => #[]
theorem e24 : c24 = .region 8 r24 false := by kernel_rfl
theorem e25 : c25 = .block 0 c26 := by kernel_rfl
theorem e26 : c26 = .rangeFunc (.tmp 22) #[23, 24] c27 c30 := by kernel_rfl
theorem e27 : c27 = .seq c28 c29 := by kernel_rfl
noncomputable def r28 : Array Oper := match c28 with | .region _ x _ => x | _ => #[]
theorem e28 : c28 = .region 9 r28 false := by kernel_rfl
noncomputable def r29 : Array Oper := match c29 with | .region _ x _ => x | _ => #[]
theorem e29 : c29 = .region 10 r29 false := by kernel_rfl
theorem e30 : c30 = .block 1 c31 := by kernel_rfl
theorem e31 : c31 = .seq c32 c39 := by kernel_rfl
theorem e32 : c32 = .seq c33 c34 := by kernel_rfl
noncomputable def r33 : Array Oper := match c33 with | .region _ x _ => x | _ => #[]
theorem e33 : c33 = .region 11 r33 false := by kernel_rfl
theorem e34 : c34 = .cond (.tmp 28) c35 c38 := by kernel_rfl
theorem e35 : c35 = .seq c36 c37 := by kernel_rfl
noncomputable def r36 : Array Oper := match c36 with | .region _ x _ => x | _ => #[]
theorem e36 : c36 = .region 12 r36 false := by kernel_rfl
theorem e37 : c37 = .ret := by kernel_rfl
theorem e38 : c38 = .skip := by kernel_rfl
theorem e39 : c39 = .seq c40 c41 := by kernel_rfl
noncomputable def r40 : Array Oper := match c40 with | .region _ x _ => x | _ => #[]
theorem e40 : c40 = .region 13 r40 false := by kernel_rfl
noncomputable def r41 : Array Oper := match c41 with | .region _ x _ => x | _ => #[]
theorem e41 : c41 = .region 14 r41 false := by kernel_rfl
theorem e42 : c42 = .seq c43 c44 := by kernel_rfl
noncomputable def r43 : Array Oper := match c43 with | .region _ x _ => x | _ => #[]
theorem e43 : c43 = .region 15 r43 false := by kernel_rfl
theorem e44 : c44 = .ret := by kernel_rfl
theorem body : Try.f29.body = some c0 := by kernel_rfl
section
variable {base : Nat} {W0 : World} {β0 : Bt}
def J3 (D : Dp) (H : Hd) (k : Nat) (l : Nat) (y9 : (Option HA)) (y10 : (Option HA)) (y47 : Bool) (S : HS) : Option (HV × HS) :=
  (Option.bind (y10) fun p41 =>
  (Option.bind (HS.sets S p41 [(.bool y47)]) fun p42 =>
  (Option.bind (y9) fun p43 =>
  (Option.bind (HS.ldI p42 .i64 p43) fun p44 =>
  (Option.bind (y9) fun p45 =>
  (Option.bind (HS.sets p42 p45 [(.int .i64 (w64 (p44 + 1)))]) fun p46 =>
  (HS.endr p46 l none)))))))
theorem J3_snd {D : Dp} {H : Hd} {k : Nat} {l : Nat} (hD : DSound Try.prog base W0 D) (hH : HSound Try.prog base W0 β0 H)  {y9 : (Option HA)} {y10 : (Option HA)} {y47 : Bool} {S : HS} {p : HV × HS} {g0 g1 g2 g3 g4 g5 g6 g7 g8 g11 g12 g13 g14 g15 g16 g17 g18 g19 g20 g21 g22 g23 g24 g25 g26 g27 g28 g29 g30 g31 g32 g33 g34 g35 g36 g37 g38 g39 g40 g41 g42 g43 g44 g45 g46 g48 g49 g50 g51 g52 g53 g54 g55 g56 : HV} (h : J3 D H k l y9 y10 y47 S = some p) : HRun Try.prog base W0 β0 29 (some l) [.inRegion r40 [19], .code c41, .inBlock 1] ⟨[g0, g1, g2, g3, g4, g5, g6, g7, g8, (.ptr y9), (.ptr y10), g11, g12, g13, g14, g15, g16, g17, g18, g19, g20, g21, g22, g23, g24, g25, g26, g27, g28, g29, g30, g31, g32, g33, g34, g35, g36, g37, g38, g39, g40, g41, g42, g43, g44, g45, g46, (.bool y47), g48, g49, g50, g51, g52, g53, g54, g55, g56], []⟩ S (fun v S1 => v = p.1 ∧ S1 = p.2) := by
  unfold J3 at h
  obtain ⟨p41, hp41, h⟩ := bindo h
  obtain ⟨p42, hp42, h⟩ := bindo h
  refine q_op (dst := none) rfl (fun _ ho => ok_store_s (v := (.bool y47)) ho sz4 (.tmp rfl) hp41 (.tmp rfl) rfl hp42) ?_
  refine hr_region_end ?_
  try dsimp only [HAct.put, List.set_cons_zero, List.set_cons_succ]
  refine q_region e41 rfl ?_
  obtain ⟨p43, hp43, h⟩ := bindo h
  obtain ⟨p44, hp44, h⟩ := bindo h
  refine q_op (dst := some 48) rfl (fun _ ho => ok_load_s ho sc3 (.tmp rfl) hp43 (ldI_out hp44)) ?_
  refine q_op (dst := some 49) rfl (fun _ ho => ok_ibin ho (.tmp rfl) (.int _ _) rfl) ?_
  obtain ⟨p45, hp45, h⟩ := bindo h
  obtain ⟨p46, hp46, h⟩ := bindo h
  refine q_op (dst := none) rfl (fun _ ho => ok_store_s (v := (.int .i64 (w64 (p44 + 1)))) ho sz3 (.tmp rfl) hp45 (.tmp rfl) rfl hp46) ?_
  refine hr_region_end ?_
  try dsimp only [HAct.put, List.set_cons_zero, List.set_cons_succ]
  refine hr_inBlock ?_
  exact q_round_end h ⟨rfl, rfl⟩
def J2 (D : Dp) (H : Hd) (k : Nat) (l : Nat) (y5 : (Option HA)) (y9 : (Option HA)) (y10 : (Option HA)) (y13 : Int) (y38 : Bool) (S : HS) : Option (HV × HS) :=
  (if y38 = true then
  (Option.bind (y5) fun p35 =>
  (Option.bind (HS.ldSl S p35) fun p36 =>
  (Option.bind (y9) fun p37 =>
  (Option.bind (HS.ldI S .i64 p37) fun p38 =>
  (Option.bind (HS.idx S p36 p38 2) fun p39 =>
  (Option.bind (HS.ldI S .i64 (HA.fld p39 1)) fun p40 =>
  J3 D H k l y9 y10 (decide (y13 = p40)) S)))))) else
  J3 D H k l y9 y10 false S)
theorem J2_snd {D : Dp} {H : Hd} {k : Nat} {l : Nat} (hD : DSound Try.prog base W0 D) (hH : HSound Try.prog base W0 β0 H)  {y5 : (Option HA)} {y9 : (Option HA)} {y10 : (Option HA)} {y13 : Int} {y38 : Bool} {S : HS} {p : HV × HS} {g0 g1 g2 g3 g4 g6 g7 g8 g11 g12 g14 g15 g16 g17 g18 g19 g20 g21 g22 g23 g24 g25 g26 g27 g28 g29 g30 g31 g32 g33 g34 g35 g36 g37 g39 g40 g41 g42 g43 g44 g45 g46 g47 g48 g49 g50 g51 g52 g53 g54 g55 g56 : HV} (h : J2 D H k l y5 y9 y10 y13 y38 S = some p) : HRun Try.prog base W0 β0 29 (some l) [.inRegion r40 [10, 11, 12, 13, 14, 15, 16, 17, 18, 19], .code c41, .inBlock 1] ⟨[g0, g1, g2, g3, g4, (.ptr y5), g6, g7, g8, (.ptr y9), (.ptr y10), g11, g12, (.int .i64 y13), g14, g15, g16, g17, g18, g19, g20, g21, g22, g23, g24, g25, g26, g27, g28, g29, g30, g31, g32, g33, g34, g35, g36, g37, (.bool y38), g39, g40, g41, g42, g43, g44, g45, g46, g47, g48, g49, g50, g51, g52, g53, g54, g55, g56], []⟩ S (fun v S1 => v = p.1 ∧ S1 = p.2) := by
  unfold J2 at h
  refine q_op (dst := some 39) rfl (fun _ ho => ok_move ho (.tmp rfl)) ?_
  rcases ifc h with ⟨hc34, h⟩ | ⟨hc34, h⟩
  · refine q_op_g (t := 39) (dst := some 40) rfl rfl rfl hc34 (fun _ ho => ok_move ho (.tmp rfl)) ?_
    try dsimp only [HAct.put, List.set_cons_zero, List.set_cons_succ]
    obtain ⟨p35, hp35, h⟩ := bindo h
    obtain ⟨p36, hp36, h⟩ := bindo h
    refine q_op_g (t := 39) (dst := some 41) rfl rfl rfl hc34 (fun _ ho => ok_load_s ho sc48 (.tmp rfl) hp35 (ldSl_out hp36)) ?_
    obtain ⟨p37, hp37, h⟩ := bindo h
    obtain ⟨p38, hp38, h⟩ := bindo h
    refine q_op_g (t := 39) (dst := some 42) rfl rfl rfl hc34 (fun _ ho => ok_load_s ho sc3 (.tmp rfl) hp37 (ldI_out hp38)) ?_
    obtain ⟨p39, hp39, h⟩ := bindo h
    refine q_op_g (t := 39) (dst := some 43) rfl rfl rfl hc34 (fun _ ho => ok_indexAddr (s := p36) ho tu48 sz61 (.tmp rfl) (.tmp rfl) hp39) ?_
    refine q_op_g (t := 39) (dst := some 44) rfl rfl rfl hc34 (fun _ ho => ok_fieldAddr_s ho fi61_1 (by decide) (.tmp rfl) rfl) ?_
    try dsimp only [HAct.put, List.set_cons_zero, List.set_cons_succ]
    obtain ⟨p40, hp40, h⟩ := bindo h
    refine q_op_g (t := 39) (dst := some 45) rfl rfl rfl hc34 (fun _ ho => ok_load_s ho sc3 (.tmp rfl) rfl (ldI_out hp40)) ?_
    refine q_op_g (t := 39) (dst := some 46) rfl rfl rfl hc34 (fun _ ho => ok_ibin ho (.tmp rfl) (.tmp rfl) rfl) ?_
    refine q_op (dst := some 47) rfl (fun _ ho => ok_pick_tt ho (.tmp rfl) hc34 (.tmp rfl)) ?_
    try dsimp only [HAct.put, List.set_cons_zero, List.set_cons_succ]
    exact J3_snd hD hH h
  · refine q_skip (dst := some 40) (t := 39) rfl rfl rfl (bfalse hc34) ?_
    try dsimp only [HAct.put, List.set_cons_zero, List.set_cons_succ]
    refine q_skip (dst := some 41) (t := 39) rfl rfl rfl (bfalse hc34) ?_
    refine q_skip (dst := some 42) (t := 39) rfl rfl rfl (bfalse hc34) ?_
    refine q_skip (dst := some 43) (t := 39) rfl rfl rfl (bfalse hc34) ?_
    refine q_skip (dst := some 44) (t := 39) rfl rfl rfl (bfalse hc34) ?_
    try dsimp only [HAct.put, List.set_cons_zero, List.set_cons_succ]
    refine q_skip (dst := some 45) (t := 39) rfl rfl rfl (bfalse hc34) ?_
    refine q_skip (dst := some 46) (t := 39) rfl rfl rfl (bfalse hc34) ?_
    refine q_op (dst := some 47) rfl (fun _ ho => ok_pick_ff ho (.tmp rfl) (bfalse hc34) (.bool _)) ?_
    try dsimp only [HAct.put, List.set_cons_zero, List.set_cons_succ]
    exact J3_snd hD hH h
def J1 (D : Dp) (H : Hd) (k : Nat) (l : Nat) (y5 : (Option HA)) (y8 : (Option HA)) (y9 : (Option HA)) (y10 : (Option HA)) (y23 : (List UInt8)) (y24 : Int) (S : HS) : Option (HV × HS) :=
  (Option.bind (HS.begin_ S l) fun p17 =>
  (Option.bind (y9) fun p18 =>
  (Option.bind (HS.ldI p17 .i64 p18) fun p19 =>
  (Option.bind (y5) fun p20 =>
  (Option.bind (HS.ldSl p17 p20) fun p21 =>
  (if p19 ≥ (Sl.len p21 : Int) then
  (Option.bind (y8) fun p23 =>
  (Option.bind (HS.sets p17 p23 [(.bool false)]) fun p24 =>
  (HS.endr p24 l (some .ret)))) else
  (Option.bind (y10) fun p25 =>
  (Option.bind (HS.ldB p17 p25) fun p26 =>
  (if p26 = true then
  (Option.bind (y5) fun p28 =>
  (Option.bind (HS.ldSl p17 p28) fun p29 =>
  (Option.bind (y9) fun p30 =>
  (Option.bind (HS.ldI p17 .i64 p30) fun p31 =>
  (Option.bind (HS.idx p17 p29 p31 2) fun p32 =>
  (Option.bind (HS.ldS p17 (HA.fld p32 0)) fun p33 =>
  J2 D H k l y5 y9 y10 y24 (decide (y23 = p33)) p17)))))) else
  J2 D H k l y5 y9 y10 y24 false p17)))))))))
theorem J1_snd {D : Dp} {H : Hd} {k : Nat} {l : Nat} (hD : DSound Try.prog base W0 D) (hH : HSound Try.prog base W0 β0 H)  {y5 : (Option HA)} {y8 : (Option HA)} {y9 : (Option HA)} {y10 : (Option HA)} {y23 : (List UInt8)} {y24 : Int} {S : HS} {p : HV × HS} {g0 g1 g2 g3 g4 g6 g7 g11 g12 g13 g14 g15 g16 g17 g18 g19 g20 g21 g22 g25 g26 g27 g28 g29 g30 g31 g32 g33 g34 g35 g36 g37 g38 g39 g40 g41 g42 g43 g44 g45 g46 g47 g48 g49 g50 g51 g52 g53 g54 g55 g56 : HV} (h : J1 D H k l y5 y8 y9 y10 y23 y24 S = some p) : HRun Try.prog base W0 β0 29 (some l) [.code c27, .beginRound, .code c30] ⟨[g0, g1, g2, g3, g4, (.ptr y5), g6, g7, (.ptr y8), (.ptr y9), (.ptr y10), g11, g12, g13, g14, g15, g16, g17, g18, g19, g20, g21, g22, (.str y23), (.int .i64 y24), g25, g26, g27, g28, g29, g30, g31, g32, g33, g34, g35, g36, g37, g38, g39, g40, g41, g42, g43, g44, g45, g46, g47, g48, g49, g50, g51, g52, g53, g54, g55, g56], []⟩ S (fun v S1 => v = p.1 ∧ S1 = p.2) := by
  unfold J1 at h
  refine q_seq e27 ?_
  refine q_region e28 rfl ?_
  refine q_op (dst := some 12) rfl (fun _ ho => ok_assign ho (.tmp rfl)) ?_
  refine hr_region_end ?_
  try dsimp only [HAct.put, List.set_cons_zero, List.set_cons_succ]
  refine q_region e29 rfl ?_
  refine q_op (dst := some 13) rfl (fun _ ho => ok_assign ho (.tmp rfl)) ?_
  refine hr_region_end ?_
  try dsimp only [HAct.put, List.set_cons_zero, List.set_cons_succ]
  obtain ⟨p17, hp17, h⟩ := bindo h
  refine q_begin hp17 ?_
  refine q_block e30 ?_
  refine q_seq e31 ?_
  refine q_seq e32 ?_
  refine q_region e33 rfl ?_
  obtain ⟨p18, hp18, h⟩ := bindo h
  obtain ⟨p19, hp19, h⟩ := bindo h
  refine q_op (dst := some 25) rfl (fun _ ho => ok_load_s ho sc3 (.tmp rfl) hp18 (ldI_out hp19)) ?_
  obtain ⟨p20, hp20, h⟩ := bindo h
  obtain ⟨p21, hp21, h⟩ := bindo h
  refine q_op (dst := some 26) rfl (fun _ ho => ok_load_s ho sc48 (.tmp rfl) hp20 (ldSl_out hp21)) ?_
  refine q_op (dst := some 27) rfl (fun _ ho => ok_len_sl (q := Sl.a p21) (n := Sl.len p21) (z := Sl.cap p21) ho rfl tu48 (.tmp rfl)) ?_
  refine q_op (dst := some 28) rfl (fun _ ho => ok_ibin ho (.tmp rfl) (.tmp rfl) rfl) ?_
  refine hr_region_end ?_
  try dsimp only [HAct.put, List.set_cons_zero, List.set_cons_succ]
  rcases ifc h with ⟨hc22, h⟩ | ⟨hc22, h⟩
  · refine q_cond_t e34 (.tmp rfl) (decide_eq_true hc22) ?_
    refine q_seq e35 ?_
    refine q_region e36 rfl ?_
    obtain ⟨p23, hp23, h⟩ := bindo h
    obtain ⟨p24, hp24, h⟩ := bindo h
    refine q_op (dst := none) rfl (fun _ ho => ok_store_s (v := (.bool false)) ho sz4 (.tmp rfl) hp23 (.bool _) rfl hp24) ?_
    refine hr_region_end ?_
    try dsimp only [HAct.put, List.set_cons_zero, List.set_cons_succ]
    exact q_round_ret e37 h ⟨rfl, rfl⟩
  · refine q_cond_f e34 (.tmp rfl) (decide_eq_false hc22) ?_
    refine q_skipc e38 ?_
    refine q_seq e39 ?_
    refine q_region e40 rfl ?_
    obtain ⟨p25, hp25, h⟩ := bindo h
    obtain ⟨p26, hp26, h⟩ := bindo h
    refine q_op (dst := some 29) rfl (fun _ ho => ok_load_s ho sc4 (.tmp rfl) hp25 (ldB_out hp26)) ?_
    refine q_op (dst := some 30) rfl (fun _ ho => ok_move ho (.tmp rfl)) ?_
    rcases ifc h with ⟨hc27, h⟩ | ⟨hc27, h⟩
    · refine q_op_g (t := 30) (dst := some 31) rfl rfl rfl hc27 (fun _ ho => ok_move ho (.tmp rfl)) ?_
      obtain ⟨p28, hp28, h⟩ := bindo h
      obtain ⟨p29, hp29, h⟩ := bindo h
      refine q_op_g (t := 30) (dst := some 32) rfl rfl rfl hc27 (fun _ ho => ok_load_s ho sc48 (.tmp rfl) hp28 (ldSl_out hp29)) ?_
      try dsimp only [HAct.put, List.set_cons_zero, List.set_cons_succ]
      obtain ⟨p30, hp30, h⟩ := bindo h
      obtain ⟨p31, hp31, h⟩ := bindo h
      refine q_op_g (t := 30) (dst := some 33) rfl rfl rfl hc27 (fun _ ho => ok_load_s ho sc3 (.tmp rfl) hp30 (ldI_out hp31)) ?_
      obtain ⟨p32, hp32, h⟩ := bindo h
      refine q_op_g (t := 30) (dst := some 34) rfl rfl rfl hc27 (fun _ ho => ok_indexAddr (s := p29) ho tu48 sz61 (.tmp rfl) (.tmp rfl) hp32) ?_
      refine q_op_g (t := 30) (dst := some 35) rfl rfl rfl hc27 (fun _ ho => ok_fieldAddr_s ho fi61_0 (by decide) (.tmp rfl) rfl) ?_
      obtain ⟨p33, hp33, h⟩ := bindo h
      refine q_op_g (t := 30) (dst := some 36) rfl rfl rfl hc27 (fun _ ho => ok_load_s ho sc9 (.tmp rfl) rfl (ldS_out hp33)) ?_
      try dsimp only [HAct.put, List.set_cons_zero, List.set_cons_succ]
      refine q_op_g (t := 30) (dst := some 37) rfl rfl rfl hc27 (fun _ ho => ok_sbin ho (.tmp rfl) (.tmp rfl) rfl) ?_
      refine q_op (dst := some 38) rfl (fun _ ho => ok_pick_tt ho (.tmp rfl) hc27 (.tmp rfl)) ?_
      try dsimp only [HAct.put, List.set_cons_zero, List.set_cons_succ]
      exact J2_snd hD hH h
    · refine q_skip (dst := some 31) (t := 30) rfl rfl rfl (bfalse hc27) ?_
      refine q_skip (dst := some 32) (t := 30) rfl rfl rfl (bfalse hc27) ?_
      try dsimp only [HAct.put, List.set_cons_zero, List.set_cons_succ]
      refine q_skip (dst := some 33) (t := 30) rfl rfl rfl (bfalse hc27) ?_
      refine q_skip (dst := some 34) (t := 30) rfl rfl rfl (bfalse hc27) ?_
      refine q_skip (dst := some 35) (t := 30) rfl rfl rfl (bfalse hc27) ?_
      refine q_skip (dst := some 36) (t := 30) rfl rfl rfl (bfalse hc27) ?_
      try dsimp only [HAct.put, List.set_cons_zero, List.set_cons_succ]
      refine q_skip (dst := some 37) (t := 30) rfl rfl rfl (bfalse hc27) ?_
      refine q_op (dst := some 38) rfl (fun _ ho => ok_pick_ff ho (.tmp rfl) (bfalse hc27) (.bool _)) ?_
      try dsimp only [HAct.put, List.set_cons_zero, List.set_cons_succ]
      exact J2_snd hD hH h
def J4 (D : Dp) (H : Hd) (k : Nat) (y8 : (Option HA)) (y56 : Bool) (ds : List Nat) (S : HS) : Option ((Bool) × HS) :=
  (Option.bind (y8) fun p62 =>
  (Option.bind (HS.sets S p62 [(.bool y56)]) fun p63 =>
  (Option.bind (HS.leave p63 ds) fun p64 =>
  (Option.bind (y8) fun p65 =>
  (Option.bind (HS.ldB p64 p65) fun p66 =>
  some (p66, p64))))))
theorem J4_snd {D : Dp} {H : Hd} {k : Nat} (hD : DSound Try.prog base W0 D) (hH : HSound Try.prog base W0 β0 H)  {y8 : (Option HA)} {y56 : Bool} {ds : List Nat} {S : HS} {p : (Bool) × HS} {g0 g1 g2 g3 g4 g5 g6 g7 g9 g10 g11 g12 g13 g14 g15 g16 g17 g18 g19 g20 g21 g22 g23 g24 g25 g26 g27 g28 g29 g30 g31 g32 g33 g34 g35 g36 g37 g38 g39 g40 g41 g42 g43 g44 g45 g46 g47 g48 g49 g50 g51 g52 g53 g54 g55 : HV} (h : J4 D H k y8 y56 ds S = some p) : HRun Try.prog base W0 β0 29 none [.inRegion r43 [7], .code c44] ⟨[g0, g1, g2, g3, g4, g5, g6, g7, (.ptr y8), g9, g10, g11, g12, g13, g14, g15, g16, g17, g18, g19, g20, g21, g22, g23, g24, g25, g26, g27, g28, g29, g30, g31, g32, g33, g34, g35, g36, g37, g38, g39, g40, g41, g42, g43, g44, g45, g46, g47, g48, g49, g50, g51, g52, g53, g54, g55, (.bool y56)], ds⟩ S (fun v S1 => v = (.bool p.1) ∧ S1 = p.2) := by
  unfold J4 at h
  obtain ⟨p62, hp62, h⟩ := bindo h
  obtain ⟨p63, hp63, h⟩ := bindo h
  refine q_op (dst := none) rfl (fun _ ho => ok_store_s (v := (.bool y56)) ho sz4 (.tmp rfl) hp62 (.tmp rfl) rfl hp63) ?_
  refine hr_region_end ?_
  try dsimp only [HAct.put, List.set_cons_zero, List.set_cons_succ]
  obtain ⟨p64, hp64, h⟩ := bindo h
  obtain ⟨p65, hp65, h⟩ := bindo h
  obtain ⟨p66, hp66, h⟩ := bindo h
  cases h
  exact q_ret e44 at_.at_ hp64 (resL1 rfl (.cell rfl hp65 sc4 (ldB_out hp66))) ⟨rfl, rfl⟩
def J0 (D : Dp) (H : Hd) (k : Nat) (y5 : (Option HA)) (y8 : (Option HA)) (y9 : (Option HA)) (y10 : (Option HA)) (y11 : HV) (ds : List Nat) (S : HS) : Option ((Bool) × HS) :=
  (Option.bind (HV.isNilFn y11) fun p10 =>
  (if (p10) = true then
  (Option.bind (y8) fun p12 =>
  (Option.bind (HS.sets S p12 [(.bool false)]) fun p13 =>
  (Option.bind (HS.leave p13 ds) fun p14 =>
  (Option.bind (y8) fun p15 =>
  (Option.bind (HS.ldB p14 p15) fun p16 =>
  some (p16, p14)))))) else
  (Option.bind (D (Hd.set H (HS.next S + 1) fun vs T =>
  (Option.bind (HS.lp T (HS.next S + 1)) fun u50 =>
  (Option.bind (args2 vs) fun ar47 =>
  (Option.bind (dS ar47.1) fun p48 =>
  (Option.bind (dI .i64 ar47.2) fun p49 =>
  (J1 D H k (HS.next S + 1) y5 y8 y9 y10 p48 p49 T)))))) y11 [.fn (.yield (HS.next S + 1)) [] []] (HS.new (HS.new S .defer) (.loop .ready none))) fun p51 =>
  (Option.bind (HS.finish p51.2 (HS.next S + 1)) fun p52 =>
  (Option.bind (pcode p52.1) fun n53 =>
  (if n53 = 0 then
  (Option.bind (y10) fun p55 =>
  (Option.bind (HS.ldB p52.2 p55) fun p56 =>
  (if p56 = true then
  (Option.bind (y9) fun p58 =>
  (Option.bind (HS.ldI p52.2 .i64 p58) fun p59 =>
  (Option.bind (y5) fun p60 =>
  (Option.bind (HS.ldSl p52.2 p60) fun p61 =>
  J4 D H k y8 (decide (p59 = (Sl.len p61 : Int))) (HS.next S :: ds) p52.2)))) else
  J4 D H k y8 false (HS.next S :: ds) p52.2))) else
  (if n53 = 1 then
  (Option.bind (HS.leave p52.2 (HS.next S :: ds)) fun p68 =>
  (Option.bind (y8) fun p69 =>
  (Option.bind (HS.ldB p68 p69) fun p70 =>
  some (p70, p68)))) else
  none)))))))
theorem J0_snd {D : Dp} {H : Hd} {k : Nat} (hD : DSound Try.prog base W0 D) (hH : HSound Try.prog base W0 β0 H)  {y5 : (Option HA)} {y8 : (Option HA)} {y9 : (Option HA)} {y10 : (Option HA)} {y11 : HV} {ds : List Nat} {S : HS} {p : (Bool) × HS} {g0 g1 g2 g3 g4 g6 g7 g12 g13 g14 g15 g16 g17 g18 g19 g20 g21 g22 g23 g24 g25 g26 g27 g28 g29 g30 g31 g32 g33 g34 g35 g36 g37 g38 g39 g40 g41 g42 g43 g44 g45 g46 g47 g48 g49 g50 g51 g52 g53 g54 g55 g56 : HV} (h : J0 D H k y5 y8 y9 y10 y11 ds S = some p) : HRun Try.prog base W0 β0 29 none [.code c14] ⟨[g0, g1, g2, g3, g4, (.ptr y5), g6, g7, (.ptr y8), (.ptr y9), (.ptr y10), y11, g12, g13, g14, g15, g16, g17, g18, g19, g20, g21, g22, g23, g24, g25, g26, g27, g28, g29, g30, g31, g32, g33, g34, g35, g36, g37, g38, g39, g40, g41, g42, g43, g44, g45, g46, g47, g48, g49, g50, g51, g52, g53, g54, g55, g56], ds⟩ S (fun v S1 => v = (.bool p.1) ∧ S1 = p.2) := by
  unfold J0 at h
  refine q_seq e14 ?_
  refine q_seq e15 ?_
  refine q_region e16 rfl ?_
  refine q_op (dst := some 20) rfl (fun _ ho => ok_move ho (.tmp rfl)) ?_
  obtain ⟨p10, hp10, h⟩ := bindo h
  refine q_op (dst := some 21) rfl (fun _ ho => ok_nil_fn ho tu93 (.tmp rfl) hp10 (.inl ⟨rfl, rfl⟩)) ?_
  refine hr_region_end ?_
  try dsimp only [HAct.put, List.set_cons_zero, List.set_cons_succ]
  rcases ifc h with ⟨hc11, h⟩ | ⟨hc11, h⟩
  · refine q_cond_t e17 (.tmp rfl) hc11 ?_
    refine q_seq e18 ?_
    refine q_region e19 rfl ?_
    obtain ⟨p12, hp12, h⟩ := bindo h
    obtain ⟨p13, hp13, h⟩ := bindo h
    refine q_op (dst := none) rfl (fun _ ho => ok_store_s (v := (.bool false)) ho sz4 (.tmp rfl) hp12 (.bool _) rfl hp13) ?_
    refine hr_region_end ?_
    try dsimp only [HAct.put, List.set_cons_zero, List.set_cons_succ]
    obtain ⟨p14, hp14, h⟩ := bindo h
    obtain ⟨p15, hp15, h⟩ := bindo h
    obtain ⟨p16, hp16, h⟩ := bindo h
    cases h
    exact q_ret e20 at_.at_ hp14 (resL1 rfl (.cell rfl hp15 sc4 (ldB_out hp16))) ⟨rfl, rfl⟩
  · refine q_cond_f e17 (.tmp rfl) (bfalse hc11) ?_
    refine q_skipc e21 ?_
    refine q_seq e22 ?_
    refine q_seq e23 ?_
    refine q_region e24 rfl ?_
    refine q_op (dst := some 22) rfl (fun _ ho => ok_move ho (.tmp rfl)) ?_
    refine hr_region_end ?_
    try dsimp only [HAct.put, List.set_cons_zero, List.set_cons_succ]
    refine q_block e25 ?_
    obtain ⟨p51, hp51, h⟩ := bindo h
    obtain ⟨p52, hp52, h⟩ := bindo h
    obtain ⟨n53, hn53, h⟩ := bindo h
    refine q_range (D := D) (H := H) e26 (.tmp rfl) hD hH hp51 hp52 ?_ ?_
    · intro β1 hle hLA vs T u T' hr
      obtain ⟨u50, hu50, hr⟩ := bindo hr
      obtain ⟨ar47, har47, hr⟩ := bindo hr
      obtain ⟨p48, hp48, hr⟩ := bindo hr
      obtain ⟨p49, hp49, hr⟩ := bindo hr
      rw [args2_out har47]
      refine q_yield2 hLA hu50 rfl rfl ?_
      rw [dS_out hp48, dI_out hp49]
      simp only [HAct.params, List.set_cons_zero, List.set_cons_succ]
      exact J1_snd hD (hH.up hle) hr
    · rcases ifc h with ⟨hc54, h⟩ | ⟨hc54, h⟩
      · rw [pcode0 hn53 hc54]
        simp only [jumped_none, jumped_some]
        refine hr_inBlock ?_
        refine q_seq e42 ?_
        refine q_region e43 rfl ?_
        obtain ⟨p55, hp55, h⟩ := bindo h
        obtain ⟨p56, hp56, h⟩ := bindo h
        refine q_op (dst := some 50) rfl (fun _ ho => ok_load_s ho sc4 (.tmp rfl) hp55 (ldB_out hp56)) ?_
        refine q_op (dst := some 51) rfl (fun _ ho => ok_move ho (.tmp rfl)) ?_
        rcases ifc h with ⟨hc57, h⟩ | ⟨hc57, h⟩
        · obtain ⟨p58, hp58, h⟩ := bindo h
          obtain ⟨p59, hp59, h⟩ := bindo h
          refine q_op_g (t := 51) (dst := some 52) rfl rfl rfl hc57 (fun _ ho => ok_load_s ho sc3 (.tmp rfl) hp58 (ldI_out hp59)) ?_
          obtain ⟨p60, hp60, h⟩ := bindo h
          obtain ⟨p61, hp61, h⟩ := bindo h
          refine q_op_g (t := 51) (dst := some 53) rfl rfl rfl hc57 (fun _ ho => ok_load_s ho sc48 (.tmp rfl) hp60 (ldSl_out hp61)) ?_
          try dsimp only [HAct.put, List.set_cons_zero, List.set_cons_succ]
          refine q_op_g (t := 51) (dst := some 54) rfl rfl rfl hc57 (fun _ ho => ok_len_sl (q := Sl.a p61) (n := Sl.len p61) (z := Sl.cap p61) ho rfl tu48 (.tmp rfl)) ?_
          refine q_op_g (t := 51) (dst := some 55) rfl rfl rfl hc57 (fun _ ho => ok_ibin ho (.tmp rfl) (.tmp rfl) rfl) ?_
          refine q_op (dst := some 56) rfl (fun _ ho => ok_pick_tt ho (.tmp rfl) hc57 (.tmp rfl)) ?_
          try dsimp only [HAct.put, List.set_cons_zero, List.set_cons_succ]
          exact J4_snd hD hH h
        · refine q_skip (dst := some 52) (t := 51) rfl rfl rfl (bfalse hc57) ?_
          refine q_skip (dst := some 53) (t := 51) rfl rfl rfl (bfalse hc57) ?_
          try dsimp only [HAct.put, List.set_cons_zero, List.set_cons_succ]
          refine q_skip (dst := some 54) (t := 51) rfl rfl rfl (bfalse hc57) ?_
          refine q_skip (dst := some 55) (t := 51) rfl rfl rfl (bfalse hc57) ?_
          refine q_op (dst := some 56) rfl (fun _ ho => ok_pick_ff ho (.tmp rfl) (bfalse hc57) (.bool _)) ?_
          try dsimp only [HAct.put, List.set_cons_zero, List.set_cons_succ]
          exact J4_snd hD hH h
      · rcases ifc h with ⟨hc67, h⟩ | ⟨hc67, h⟩
        · rw [pcode1 hn53 hc67]
          simp only [jumped_none, jumped_some]
          obtain ⟨p68, hp68, h⟩ := bindo h
          obtain ⟨p69, hp69, h⟩ := bindo h
          obtain ⟨p70, hp70, h⟩ := bindo h
          cases h
          exact q_ret rfl at_.at_ hp68 (resL1 rfl (.cell rfl hp69 sc4 (ldB_out hp70))) ⟨rfl, rfl⟩
        · cases h
def f (D : Dp) (H : Hd) (k : Nat) (x0 : (Option HA)) (x1 : Sl) (x2 : (List UInt8)) (x3 : Bool) (S : HS) : Option ((Bool) × HS) :=
  (letv (HS.new S (.cells 1 [[(Sl.hv x1)]] true)) fun p1 =>
  (letv (HS.new p1 (.cells 1 [[(.bool false)]] true)) fun p2 =>
  (letv (HS.new p2 (.cells 1 [[(.int .i64 0)]] true)) fun p3 =>
  (Option.bind (HS.sets p3 (HA.cell0 p2.next) [(.int .i64 0)]) fun p4 =>
  (letv (HS.new p4 (.cells 1 [[(.bool false)]] true)) fun p5 =>
  (Option.bind (HS.sets p5 (HA.cell0 p4.next) [(.bool true)]) fun p6 =>
  (Option.bind (book_Book_int_From.f D H k x0 x2 p6) fun p7 =>
  (if x3 = true then
  (Option.bind (book_Book_int_All.f x0 p7.2) fun p9 =>
  J0 D H k (some (HA.cell0 S.next)) (some (HA.cell0 p1.next)) (some (HA.cell0 p2.next)) (some (HA.cell0 p4.next)) p9.1 [] p9.2) else
  J0 D H k (some (HA.cell0 S.next)) (some (HA.cell0 p1.next)) (some (HA.cell0 p2.next)) (some (HA.cell0 p4.next)) p7.1 [] p7.2))))))))
theorem snd {D : Dp} {H : Hd} {k : Nat} {x0 : (Option HA)} {x1 : Sl} {x2 : (List UInt8)} {x3 : Bool} {S : HS} (hD : DSound Try.prog base W0 D) (hH : HSound Try.prog base W0 β0 H)  {p : (Bool) × HS} (h : f D H k x0 x1 x2 x3 S = some p) : HCall Try.prog base W0 β0 29 [(.ptr x0), (Sl.hv x1), (.str x2), (.bool x3)] S (fun v S1 => v = (.bool p.1) ∧ S1 = p.2) := by
  unfold f at h
  refine HCall.of_run at_.at_ body ?_
  show HRun Try.prog base W0 β0 29 none [.code c0] ⟨[(.ptr x0), (Sl.hv x1), (.str x2), (.bool x3), .tup [], .tup [], .tup [], .tup [], .tup [], .tup [], .tup [], .tup [], .tup [], .tup [], .tup [], .tup [], .tup [], .tup [], .tup [], .tup [], .tup [], .tup [], .tup [], .tup [], .tup [], .tup [], .tup [], .tup [], .tup [], .tup [], .tup [], .tup [], .tup [], .tup [], .tup [], .tup [], .tup [], .tup [], .tup [], .tup [], .tup [], .tup [], .tup [], .tup [], .tup [], .tup [], .tup [], .tup [], .tup [], .tup [], .tup [], .tup [], .tup [], .tup [], .tup [], .tup [], .tup []], []⟩ S _
  refine q_seq e0 ?_
  refine q_region e1 rfl ?_
  obtain ⟨p1, hp1, h⟩ := leto h
  refine q_op (dst := some 5) rfl (fun _ ho => ok_box_e ho (.tmp rfl) (Nat.zero_lt_succ _) rfl hp1) ?_
  obtain ⟨p2, hp2, h⟩ := leto h
  refine q_op (dst := some 8) rfl (fun _ ho => ok_alloc_e ho zi4 zr4 (by decide) rfl hp2) ?_
  refine hr_region_end ?_
  try dsimp only [HAct.put, List.set_cons_zero, List.set_cons_succ]
  refine q_seq e2 ?_
  refine q_region e3 rfl ?_
  obtain ⟨p3, hp3, h⟩ := leto h
  refine q_op (dst := some 9) rfl (fun _ ho => ok_alloc_e ho zi3 zr3 (by decide) rfl hp3) ?_
  obtain ⟨p4, hp4, h⟩ := bindo h
  refine q_op (dst := none) rfl (fun _ ho => ok_store_s (v := (.int .i64 0)) ho sz3 (.tmp rfl) rfl (.int _ _) rfl hp4) ?_
  refine hr_region_end ?_
  try dsimp only [HAct.put, List.set_cons_zero, List.set_cons_succ]
  refine q_seq e4 ?_
  refine q_region e5 rfl ?_
  obtain ⟨p5, hp5, h⟩ := leto h
  refine q_op (dst := some 10) rfl (fun _ ho => ok_alloc_e ho zi4 zr4 (by decide) rfl hp5) ?_
  obtain ⟨p6, hp6, h⟩ := bindo h
  refine q_op (dst := none) rfl (fun _ ho => ok_store_s (v := (.bool true)) ho sz4 (.tmp rfl) rfl (.bool _) rfl hp6) ?_
  refine hr_region_end ?_
  try dsimp only [HAct.put, List.set_cons_zero, List.set_cons_succ]
  refine q_seq e6 ?_
  refine q_region e7 rfl ?_
  refine q_op (dst := some 14) rfl (fun _ ho => ok_move ho (.tmp rfl)) ?_
  refine q_op (dst := some 15) rfl (fun _ ho => ok_move ho (.tmp rfl)) ?_
  obtain ⟨p7, hp7, h⟩ := bindo h
  refine q_call (dst := some 16) rfl (.func _) (.cons (.tmp rfl) (.cons (.tmp rfl) Evs.nil)) (HInv.static book_Book_int_From.at_ book_Book_int_From.body (book_Book_int_From.snd hD hH hp7)) ?_
  rintro _ _ ⟨rfl, rfl⟩
  refine q_op (dst := some 11) rfl (fun _ ho => ok_assign ho (.tmp rfl)) ?_
  refine hr_region_end ?_
  try dsimp only [HAct.put, List.set_cons_zero, List.set_cons_succ]
  refine q_seq e8 ?_
  refine q_seq e9 ?_
  refine q_region e10 rfl ?_
  refine q_op (dst := some 17) rfl (fun _ ho => ok_move ho (.tmp rfl)) ?_
  refine hr_region_end ?_
  try dsimp only [HAct.put, List.set_cons_zero, List.set_cons_succ]
  rcases ifc h with ⟨hc8, h⟩ | ⟨hc8, h⟩
  · refine q_cond_t e11 (.tmp rfl) hc8 ?_
    refine q_region e12 rfl ?_
    refine q_op (dst := some 18) rfl (fun _ ho => ok_move ho (.tmp rfl)) ?_
    obtain ⟨p9, hp9, h⟩ := bindo h
    refine q_call (dst := some 19) rfl (.func _) (.cons (.tmp rfl) Evs.nil) (HInv.static book_Book_int_All.at_ book_Book_int_All.body (book_Book_int_All.snd  hp9)) ?_
    rintro _ _ ⟨rfl, rfl⟩
    refine q_op (dst := some 11) rfl (fun _ ho => ok_assign ho (.tmp rfl)) ?_
    refine hr_region_end ?_
    try dsimp only [HAct.put, List.set_cons_zero, List.set_cons_succ]
    try dsimp only [HAct.put, List.set_cons_zero, List.set_cons_succ]
    exact J0_snd hD hH h
  · refine q_cond_f e11 (.tmp rfl) (bfalse hc8) ?_
    refine q_skipc e13 ?_
    try dsimp only [HAct.put, List.set_cons_zero, List.set_cons_succ]
    exact J0_snd hD hH h
end
end rollcalllaw02_same
namespace rollcalllaw02_BookNone
abbrev id : Nat := 6
theorem at_ : FnAt Try.prog 6 Try.f6 := ⟨Try.func6, by kernel_rfl⟩
noncomputable def c0 : Code := (Try.f6.body).getD .skip
noncomputable def c1 : Code := match c0 with | .seq x _ => x | _ => .skip
noncomputable def c2 : Code := match c0 with | .seq _ x => x | _ => .skip
noncomputable def c3 : Code := match c2 with | .seq x _ => x | _ => .skip
noncomputable def c4 : Code := match c3 with | .seq x _ => x | _ => .skip
noncomputable def c5 : Code := match c3 with | .seq _ x => x | _ => .skip
noncomputable def c6 : Code := match c5 with | .cond _ x _ => x | _ => .skip
noncomputable def c7 : Code := match c6 with | .seq x _ => x | _ => .skip
noncomputable def c8 : Code := match c6 with | .seq _ x => x | _ => .skip
noncomputable def c9 : Code := match c5 with | .cond _ _ x => x | _ => .skip
noncomputable def c10 : Code := match c2 with | .seq _ x => x | _ => .skip
noncomputable def c11 : Code := match c10 with | .seq x _ => x | _ => .skip
noncomputable def c12 : Code := match c11 with | .seq x _ => x | _ => .skip
noncomputable def c13 : Code := match c11 with | .seq _ x => x | _ => .skip
noncomputable def c14 : Code := match c13 with | .cond _ x _ => x | _ => .skip
noncomputable def c15 : Code := match c14 with | .seq x _ => x | _ => .skip
noncomputable def c16 : Code := match c14 with | .seq _ x => x | _ => .skip
noncomputable def c17 : Code := match c13 with | .cond _ _ x => x | _ => .skip
noncomputable def c18 : Code := match c10 with | .seq _ x => x | _ => .skip
noncomputable def c19 : Code := match c18 with | .seq x _ => x | _ => .skip
noncomputable def c20 : Code := match c18 with | .seq _ x => x | _ => .skip
noncomputable def c21 : Code := match c20 with | .seq x _ => x | _ => .skip
noncomputable def c22 : Code := match c20 with | .seq _ x => x | _ => .skip
noncomputable def c23 : Code := match c22 with | .seq x _ => x | _ => .skip
noncomputable def c24 : Code := match c22 with | .seq _ x => x | _ => .skip
noncomputable def c25 : Code := match c24 with | .seq x _ => x | _ => .skip
noncomputable def c26 : Code := match c24 with | .seq _ x => x | _ => .skip
theorem e0 : c0 = .seq c1 c2 := by kernel_rfl
noncomputable def r1 : Array Oper := match c1 with | .region _ x _ => x | _ => #[]
theorem e1 : c1 = .region 0 r1 false := by kernel_rfl
theorem e2 : c2 = .seq c3 c10 := by kernel_rfl
theorem e3 : c3 = .seq c4 c5 := by kernel_rfl
noncomputable def r4 : Array Oper := match c4 with | .region _ x _ => x | _ => #[]
theorem e4 : c4 = .region 1 r4 false := by kernel_rfl
theorem e5 : c5 = .cond (.tmp 11) c6 c9 := by kernel_rfl
theorem e6 : c6 = .seq c7 c8 := by kernel_rfl
noncomputable def r7 : Array Oper := match c7 with | .region _ x _ => x | _ => #[]
theorem e7 : c7 = .region 2 r7 false := by kernel_rfl
theorem e8 : c8 = .ret := by kernel_rfl
theorem e9 : c9 = .skip := by kernel_rfl
theorem e10 : c10 = .seq c11 c18 := by kernel_rfl
theorem e11 : c11 = .seq c12 c13 := by kernel_rfl
noncomputable def r12 : Array Oper := match c12 with | .region _ x _ => x | _ => #[]
theorem e12 : c12 = .region 3 r12 false := by kernel_rfl
theorem e13 : c13 = .cond (.tmp 14) c14 c17 := by kernel_rfl
theorem e14 : c14 = .seq c15 c16 := by kernel_rfl
noncomputable def r15 : Array Oper := match c15 with | .region _ x _ => x | _ => #[]
theorem e15 : c15 = .region 4 r15 false := by kernel_rfl
theorem e16 : c16 = .ret := by kernel_rfl
theorem e17 : c17 = .skip := by kernel_rfl
theorem e18 : c18 = .seq c19 c20 := by kernel_rfl
noncomputable def r19 : Array Oper := match c19 with | .region _ x _ => x | _ => #[]
theorem e19 : c19 = .region 5 r19 false := by kernel_rfl
theorem e20 : c20 = .seq c21 c22 := by kernel_rfl
noncomputable def r21 : Array Oper := match c21 with | .region _ x _ => x | _ => #[]
theorem e21 : c21 = .region 6 r21 false := by kernel_rfl
theorem e22 : c22 = .seq c23 c24 := by kernel_rfl
noncomputable def r23 : Array Oper := match c23 with | .region _ x _ => x | _ => #[]
theorem e23 : c23 = .region 7 r23 false := by kernel_rfl
theorem e24 : c24 = .seq c25 c26 := by kernel_rfl
noncomputable def r25 : Array Oper := match c25 with | .region _ x _ => x | _ => #[]
theorem e25 : c25 = .region 8 r25 false := by kernel_rfl
theorem e26 : c26 = .ret := by kernel_rfl
theorem body : Try.f6.body = some c0 := by kernel_rfl
section
variable {base : Nat} {W0 : World} {β0 : Bt}
def J7 (D : Dp) (H : Hd) (k : Nat) (y68 : Bool) (S : HS) : Option ((Bool) × HS) :=
  some (y68, S)
theorem J7_snd {D : Dp} {H : Hd} {k : Nat} (hD : DSound Try.prog base W0 D) (hH : HSound Try.prog base W0 β0 H)  {y68 : Bool} {S : HS} {p : (Bool) × HS} {g0 g1 g2 g3 g4 g5 g6 g7 g8 g9 g10 g11 g12 g13 g14 g15 g16 g17 g18 g19 g20 g21 g22 g23 g24 g25 g26 g27 g28 g29 g30 g31 g32 g33 g34 g35 g36 g37 g38 g39 g40 g41 g42 g43 g44 g45 g46 g47 g48 g49 g50 g51 g52 g53 g54 g55 g56 g57 g58 g59 g60 g61 g62 g63 g64 g65 g66 g67 : HV} (h : J7 D H k y68 S = some p) : HRun Try.prog base W0 β0 6 none [.inRegion r25 [42], .code c26] ⟨[g0, g1, g2, g3, g4, g5, g6, g7, g8, g9, g10, g11, g12, g13, g14, g15, g16, g17, g18, g19, g20, g21, g22, g23, g24, g25, g26, g27, g28, g29, g30, g31, g32, g33, g34, g35, g36, g37, g38, g39, g40, g41, g42, g43, g44, g45, g46, g47, g48, g49, g50, g51, g52, g53, g54, g55, g56, g57, g58, g59, g60, g61, g62, g63, g64, g65, g66, g67, (.bool y68)], []⟩ S (fun v S1 => v = (.bool p.1) ∧ S1 = p.2) := by
  unfold J7 at h
  refine q_op (dst := some 4) rfl (fun _ ho => ok_assign ho (.tmp rfl)) ?_
  refine hr_region_end ?_
  try dsimp only [HAct.put, List.set_cons_zero, List.set_cons_succ]
  cases h
  exact q_ret e26 at_.at_ rfl (res1 rfl rfl) ⟨rfl, rfl⟩
def J6 (D : Dp) (H : Hd) (k : Nat) (y0 : (List UInt8)) (y5 : (Option HA)) (y63 : Bool) (S : HS) : Option ((Bool) × HS) :=
  (if y63 = true then
  (Option.bind (rollcalllaw02_same.f D H k y5 Sl.nil y0 false S) fun p18 =>
  J7 D H k p18.1 p18.2) else
  J7 D H k false S)
theorem J6_snd {D : Dp} {H : Hd} {k : Nat} (hD : DSound Try.prog base W0 D) (hH : HSound Try.prog base W0 β0 H)  {y0 : (List UInt8)} {y5 : (Option HA)} {y63 : Bool} {S : HS} {p : (Bool) × HS} {g1 g2 g3 g4 g6 g7 g8 g9 g10 g11 g12 g13 g14 g15 g16 g17 g18 g19 g20 g21 g22 g23 g24 g25 g26 g27 g28 g29 g30 g31 g32 g33 g34 g35 g36 g37 g38 g39 g40 g41 g42 g43 g44 g45 g46 g47 g48 g49 g50 g51 g52 g53 g54 g55 g56 g57 g58 g59 g60 g61 g62 g64 g65 g66 g67 g68 : HV} (h : J6 D H k y0 y5 y63 S = some p) : HRun Try.prog base W0 β0 6 none [.inRegion r25 [37, 38, 39, 40, 41, 42], .code c26] ⟨[(.str y0), g1, g2, g3, g4, (.ptr y5), g6, g7, g8, g9, g10, g11, g12, g13, g14, g15, g16, g17, g18, g19, g20, g21, g22, g23, g24, g25, g26, g27, g28, g29, g30, g31, g32, g33, g34, g35, g36, g37, g38, g39, g40, g41, g42, g43, g44, g45, g46, g47, g48, g49, g50, g51, g52, g53, g54, g55, g56, g57, g58, g59, g60, g61, g62, (.bool y63), g64, g65, g66, g67, g68], []⟩ S (fun v S1 => v = (.bool p.1) ∧ S1 = p.2) := by
  unfold J6 at h
  refine q_op (dst := some 64) rfl (fun _ ho => ok_move ho (.tmp rfl)) ?_
  rcases ifc h with ⟨hc17, h⟩ | ⟨hc17, h⟩
  · refine q_op_g (t := 64) (dst := some 65) rfl rfl rfl hc17 (fun _ ho => ok_move ho (.tmp rfl)) ?_
    refine q_op_g (t := 64) (dst := some 66) rfl rfl rfl hc17 (fun _ ho => ok_move ho (.tmp rfl)) ?_
    try dsimp only [HAct.put, List.set_cons_zero, List.set_cons_succ]
    obtain ⟨p18, hp18, h⟩ := bindo h
    refine q_call_g (t := 64) (dst := some 67) rfl rfl rfl hc17 (.func _) (.cons (.tmp rfl) (.cons (.const fun _ => .slNil none) (.cons (.tmp rfl) (.cons (.bool _) Evs.nil)))) (HInv.static rollcalllaw02_same.at_ rollcalllaw02_same.body (rollcalllaw02_same.snd hD hH hp18)) ?_
    rintro _ _ ⟨rfl, rfl⟩
    refine q_op (dst := some 68) rfl (fun _ ho => ok_pick_tt ho (.tmp rfl) hc17 (.tmp rfl)) ?_
    try dsimp only [HAct.put, List.set_cons_zero, List.set_cons_succ]
    exact J7_snd hD hH h
  · refine q_skip (dst := some 65) (t := 64) rfl rfl rfl (bfalse hc17) ?_
    refine q_skip (dst := some 66) (t := 64) rfl rfl rfl (bfalse hc17) ?_
    try dsimp only [HAct.put, List.set_cons_zero, List.set_cons_succ]
    refine q_skip (dst := some 67) (t := 64) rfl rfl rfl (bfalse hc17) ?_
    refine q_op (dst := some 68) rfl (fun _ ho => ok_pick_ff ho (.tmp rfl) (bfalse hc17) (.bool _)) ?_
    try dsimp only [HAct.put, List.set_cons_zero, List.set_cons_succ]
    exact J7_snd hD hH h
def J5 (D : Dp) (H : Hd) (k : Nat) (y0 : (List UInt8)) (y5 : (Option HA)) (y58 : Bool) (S : HS) : Option ((Bool) × HS) :=
  (if y58 = true then
  (Option.bind (rollcalllaw02_same.f D H k y5 Sl.nil y0 true S) fun p16 =>
  J6 D H k y0 y5 p16.1 p16.2) else
  J6 D H k y0 y5 false S)
theorem J5_snd {D : Dp} {H : Hd} {k : Nat} (hD : DSound Try.prog base W0 D) (hH : HSound Try.prog base W0 β0 H)  {y0 : (List UInt8)} {y5 : (Option HA)} {y58 : Bool} {S : HS} {p : (Bool) × HS} {g1 g2 g3 g4 g6 g7 g8 g9 g10 g11 g12 g13 g14 g15 g16 g17 g18 g19 g20 g21 g22 g23 g24 g25 g26 g27 g28 g29 g30 g31 g32 g33 g34 g35 g36 g37 g38 g39 g40 g41 g42 g43 g44 g45 g46 g47 g48 g49 g50 g51 g52 g53 g54 g55 g56 g57 g59 g60 g61 g62 g63 g64 g65 g66 g67 g68 : HV} (h : J5 D H k y0 y5 y58 S = some p) : HRun Try.prog base W0 β0 6 none [.inRegion r25 [32, 33, 34, 35, 36, 37, 38, 39, 40, 41, 42], .code c26] ⟨[(.str y0), g1, g2, g3, g4, (.ptr y5), g6, g7, g8, g9, g10, g11, g12, g13, g14, g15, g16, g17, g18, g19, g20, g21, g22, g23, g24, g25, g26, g27, g28, g29, g30, g31, g32, g33, g34, g35, g36, g37, g38, g39, g40, g41, g42, g43, g44, g45, g46, g47, g48, g49, g50, g51, g52, g53, g54, g55, g56, g57, (.bool y58), g59, g60, g61, g62, g63, g64, g65, g66, g67, g68], []⟩ S (fun v S1 => v = (.bool p.1) ∧ S1 = p.2) := by
  unfold J5 at h
  refine q_op (dst := some 59) rfl (fun _ ho => ok_move ho (.tmp rfl)) ?_
  rcases ifc h with ⟨hc15, h⟩ | ⟨hc15, h⟩
  · refine q_op_g (t := 59) (dst := some 60) rfl rfl rfl hc15 (fun _ ho => ok_move ho (.tmp rfl)) ?_
    refine q_op_g (t := 59) (dst := some 61) rfl rfl rfl hc15 (fun _ ho => ok_move ho (.tmp rfl)) ?_
    obtain ⟨p16, hp16, h⟩ := bindo h
    refine q_call_g (t := 59) (dst := some 62) rfl rfl rfl hc15 (.func _) (.cons (.tmp rfl) (.cons (.const fun _ => .slNil none) (.cons (.tmp rfl) (.cons (.bool _) Evs.nil)))) (HInv.static rollcalllaw02_same.at_ rollcalllaw02_same.body (rollcalllaw02_same.snd hD hH hp16)) ?_
    rintro _ _ ⟨rfl, rfl⟩
    try dsimp only [HAct.put, List.set_cons_zero, List.set_cons_succ]
    refine q_op (dst := some 63) rfl (fun _ ho => ok_pick_tt ho (.tmp rfl) hc15 (.tmp rfl)) ?_
    try dsimp only [HAct.put, List.set_cons_zero, List.set_cons_succ]
    exact J6_snd hD hH h
  · refine q_skip (dst := some 60) (t := 59) rfl rfl rfl (bfalse hc15) ?_
    refine q_skip (dst := some 61) (t := 59) rfl rfl rfl (bfalse hc15) ?_
    refine q_skip (dst := some 62) (t := 59) rfl rfl rfl (bfalse hc15) ?_
    try dsimp only [HAct.put, List.set_cons_zero, List.set_cons_succ]
    refine q_op (dst := some 63) rfl (fun _ ho => ok_pick_ff ho (.tmp rfl) (bfalse hc15) (.bool _)) ?_
    try dsimp only [HAct.put, List.set_cons_zero, List.set_cons_succ]
    exact J6_snd hD hH h
def J4 (D : Dp) (H : Hd) (k : Nat) (y0 : (List UInt8)) (y5 : (Option HA)) (y53 : Bool) (S : HS) : Option ((Bool) × HS) :=
  (if y53 = true then
  (Option.bind (book_Book_int_Len.f y5 S) fun p14 =>
  J5 D H k y0 y5 (decide (p14.1 = 0)) p14.2) else
  J5 D H k y0 y5 false S)
theorem J4_snd {D : Dp} {H : Hd} {k : Nat} (hD : DSound Try.prog base W0 D) (hH : HSound Try.prog base W0 β0 H)  {y0 : (List UInt8)} {y5 : (Option HA)} {y53 : Bool} {S : HS} {p : (Bool) × HS} {g1 g2 g3 g4 g6 g7 g8 g9 g10 g11 g12 g13 g14 g15 g16 g17 g18 g19 g20 g21 g22 g23 g24 g25 g26 g27 g28 g29 g30 g31 g32 g33 g34 g35 g36 g37 g38 g39 g40 g41 g42 g43 g44 g45 g46 g47 g48 g49 g50 g51 g52 g54 g55 g56 g57 g58 g59 g60 g61 g62 g63 g64 g65 g66 g67 g68 : HV} (h : J4 D H k y0 y5 y53 S = some p) : HRun Try.prog base W0 β0 6 none [.inRegion r25 [27, 28, 29, 30, 31, 32, 33, 34, 35, 36, 37, 38, 39, 40, 41, 42], .code c26] ⟨[(.str y0), g1, g2, g3, g4, (.ptr y5), g6, g7, g8, g9, g10, g11, g12, g13, g14, g15, g16, g17, g18, g19, g20, g21, g22, g23, g24, g25, g26, g27, g28, g29, g30, g31, g32, g33, g34, g35, g36, g37, g38, g39, g40, g41, g42, g43, g44, g45, g46, g47, g48, g49, g50, g51, g52, (.bool y53), g54, g55, g56, g57, g58, g59, g60, g61, g62, g63, g64, g65, g66, g67, g68], []⟩ S (fun v S1 => v = (.bool p.1) ∧ S1 = p.2) := by
  unfold J4 at h
  refine q_op (dst := some 54) rfl (fun _ ho => ok_move ho (.tmp rfl)) ?_
  try dsimp only [HAct.put, List.set_cons_zero, List.set_cons_succ]
  rcases ifc h with ⟨hc13, h⟩ | ⟨hc13, h⟩
  · refine q_op_g (t := 54) (dst := some 55) rfl rfl rfl hc13 (fun _ ho => ok_move ho (.tmp rfl)) ?_
    obtain ⟨p14, hp14, h⟩ := bindo h
    refine q_call_g (t := 54) (dst := some 56) rfl rfl rfl hc13 (.func _) (.cons (.tmp rfl) Evs.nil) (HInv.static book_Book_int_Len.at_ book_Book_int_Len.body (book_Book_int_Len.snd  hp14)) ?_
    rintro _ _ ⟨rfl, rfl⟩
    refine q_op_g (t := 54) (dst := some 57) rfl rfl rfl hc13 (fun _ ho => ok_ibin ho (.tmp rfl) (.int _ _) rfl) ?_
    refine q_op (dst := some 58) rfl (fun _ ho => ok_pick_tt ho (.tmp rfl) hc13 (.tmp rfl)) ?_
    try dsimp only [HAct.put, List.set_cons_zero, List.set_cons_succ]
    try dsimp only [HAct.put, List.set_cons_zero, List.set_cons_succ]
    exact J5_snd hD hH h
  · refine q_skip (dst := some 55) (t := 54) rfl rfl rfl (bfalse hc13) ?_
    refine q_skip (dst := some 56) (t := 54) rfl rfl rfl (bfalse hc13) ?_
    refine q_skip (dst := some 57) (t := 54) rfl rfl rfl (bfalse hc13) ?_
    refine q_op (dst := some 58) rfl (fun _ ho => ok_pick_ff ho (.tmp rfl) (bfalse hc13) (.bool _)) ?_
    try dsimp only [HAct.put, List.set_cons_zero, List.set_cons_succ]
    try dsimp only [HAct.put, List.set_cons_zero, List.set_cons_succ]
    exact J5_snd hD hH h
def J3 (D : Dp) (H : Hd) (k : Nat) (y0 : (List UInt8)) (y5 : (Option HA)) (y47 : Bool) (S : HS) : Option ((Bool) × HS) :=
  (if y47 = true then
  (Option.bind (book_Book_int_Delete.f D H k y5 y0 S) fun p12 =>
  J4 D H k y0 y5 (!p12.1) p12.2) else
  J4 D H k y0 y5 false S)
theorem J3_snd {D : Dp} {H : Hd} {k : Nat} (hD : DSound Try.prog base W0 D) (hH : HSound Try.prog base W0 β0 H)  {y0 : (List UInt8)} {y5 : (Option HA)} {y47 : Bool} {S : HS} {p : (Bool) × HS} {g1 g2 g3 g4 g6 g7 g8 g9 g10 g11 g12 g13 g14 g15 g16 g17 g18 g19 g20 g21 g22 g23 g24 g25 g26 g27 g28 g29 g30 g31 g32 g33 g34 g35 g36 g37 g38 g39 g40 g41 g42 g43 g44 g45 g46 g48 g49 g50 g51 g52 g53 g54 g55 g56 g57 g58 g59 g60 g61 g62 g63 g64 g65 g66 g67 g68 : HV} (h : J3 D H k y0 y5 y47 S = some p) : HRun Try.prog base W0 β0 6 none [.inRegion r25 [21, 22, 23, 24, 25, 26, 27, 28, 29, 30, 31, 32, 33, 34, 35, 36, 37, 38, 39, 40, 41, 42], .code c26] ⟨[(.str y0), g1, g2, g3, g4, (.ptr y5), g6, g7, g8, g9, g10, g11, g12, g13, g14, g15, g16, g17, g18, g19, g20, g21, g22, g23, g24, g25, g26, g27, g28, g29, g30, g31, g32, g33, g34, g35, g36, g37, g38, g39, g40, g41, g42, g43, g44, g45, g46, (.bool y47), g48, g49, g50, g51, g52, g53, g54, g55, g56, g57, g58, g59, g60, g61, g62, g63, g64, g65, g66, g67, g68], []⟩ S (fun v S1 => v = (.bool p.1) ∧ S1 = p.2) := by
  unfold J3 at h
  refine q_op (dst := some 48) rfl (fun _ ho => ok_move ho (.tmp rfl)) ?_
  rcases ifc h with ⟨hc11, h⟩ | ⟨hc11, h⟩
  · refine q_op_g (t := 48) (dst := some 49) rfl rfl rfl hc11 (fun _ ho => ok_move ho (.tmp rfl)) ?_
    refine q_op_g (t := 48) (dst := some 50) rfl rfl rfl hc11 (fun _ ho => ok_move ho (.tmp rfl)) ?_
    try dsimp only [HAct.put, List.set_cons_zero, List.set_cons_succ]
    obtain ⟨p12, hp12, h⟩ := bindo h
    refine q_call_g (t := 48) (dst := some 51) rfl rfl rfl hc11 (.func _) (.cons (.tmp rfl) (.cons (.tmp rfl) Evs.nil)) (HInv.static book_Book_int_Delete.at_ book_Book_int_Delete.body (book_Book_int_Delete.snd hD hH hp12)) ?_
    rintro _ _ ⟨rfl, rfl⟩
    refine q_op_g (t := 48) (dst := some 52) rfl rfl rfl hc11 (fun _ ho => ok_not ho (.tmp rfl)) ?_
    refine q_op (dst := some 53) rfl (fun _ ho => ok_pick_tt ho (.tmp rfl) hc11 (.tmp rfl)) ?_
    try dsimp only [HAct.put, List.set_cons_zero, List.set_cons_succ]
    exact J4_snd hD hH h
  · refine q_skip (dst := some 49) (t := 48) rfl rfl rfl (bfalse hc11) ?_
    refine q_skip (dst := some 50) (t := 48) rfl rfl rfl (bfalse hc11) ?_
    try dsimp only [HAct.put, List.set_cons_zero, List.set_cons_succ]
    refine q_skip (dst := some 51) (t := 48) rfl rfl rfl (bfalse hc11) ?_
    refine q_skip (dst := some 52) (t := 48) rfl rfl rfl (bfalse hc11) ?_
    refine q_op (dst := some 53) rfl (fun _ ho => ok_pick_ff ho (.tmp rfl) (bfalse hc11) (.bool _)) ?_
    try dsimp only [HAct.put, List.set_cons_zero, List.set_cons_succ]
    exact J4_snd hD hH h
def J2 (D : Dp) (H : Hd) (k : Nat) (y0 : (List UInt8)) (y5 : (Option HA)) (y9 : Bool) (y43 : Bool) (S : HS) : Option ((Bool) × HS) :=
  (if y43 = true then
  J3 D H k y0 y5 (!y9) S else
  J3 D H k y0 y5 false S)
theorem J2_snd {D : Dp} {H : Hd} {k : Nat} (hD : DSound Try.prog base W0 D) (hH : HSound Try.prog base W0 β0 H)  {y0 : (List UInt8)} {y5 : (Option HA)} {y9 : Bool} {y43 : Bool} {S : HS} {p : (Bool) × HS} {g1 g2 g3 g4 g6 g7 g8 g10 g11 g12 g13 g14 g15 g16 g17 g18 g19 g20 g21 g22 g23 g24 g25 g26 g27 g28 g29 g30 g31 g32 g33 g34 g35 g36 g37 g38 g39 g40 g41 g42 g44 g45 g46 g47 g48 g49 g50 g51 g52 g53 g54 g55 g56 g57 g58 g59 g60 g61 g62 g63 g64 g65 g66 g67 g68 : HV} (h : J2 D H k y0 y5 y9 y43 S = some p) : HRun Try.prog base W0 β0 6 none [.inRegion r25 [17, 18, 19, 20, 21, 22, 23, 24, 25, 26, 27, 28, 29, 30, 31, 32, 33, 34, 35, 36, 37, 38, 39, 40, 41, 42], .code c26] ⟨[(.str y0), g1, g2, g3, g4, (.ptr y5), g6, g7, g8, (.bool y9), g10, g11, g12, g13, g14, g15, g16, g17, g18, g19, g20, g21, g22, g23, g24, g25, g26, g27, g28, g29, g30, g31, g32, g33, g34, g35, g36, g37, g38, g39, g40, g41, g42, (.bool y43), g44, g45, g46, g47, g48, g49, g50, g51, g52, g53, g54, g55, g56, g57, g58, g59, g60, g61, g62, g63, g64, g65, g66, g67, g68], []⟩ S (fun v S1 => v = (.bool p.1) ∧ S1 = p.2) := by
  unfold J2 at h
  refine q_op (dst := some 44) rfl (fun _ ho => ok_move ho (.tmp rfl)) ?_
  rcases ifc h with ⟨hc10, h⟩ | ⟨hc10, h⟩
  · refine q_op_g (t := 44) (dst := some 45) rfl rfl rfl hc10 (fun _ ho => ok_move ho (.tmp rfl)) ?_
    refine q_op_g (t := 44) (dst := some 46) rfl rfl rfl hc10 (fun _ ho => ok_not ho (.tmp rfl)) ?_
    try dsimp only [HAct.put, List.set_cons_zero, List.set_cons_succ]
    refine q_op (dst := some 47) rfl (fun _ ho => ok_pick_tt ho (.tmp rfl) hc10 (.tmp rfl)) ?_
    try dsimp only [HAct.put, List.set_cons_zero, List.set_cons_succ]
    exact J3_snd hD hH h
  · refine q_skip (dst := some 45) (t := 44) rfl rfl rfl (bfalse hc10) ?_
    refine q_skip (dst := some 46) (t := 44) rfl rfl rfl (bfalse hc10) ?_
    try dsimp only [HAct.put, List.set_cons_zero, List.set_cons_succ]
    refine q_op (dst := some 47) rfl (fun _ ho => ok_pick_ff ho (.tmp rfl) (bfalse hc10) (.bool _)) ?_
    try dsimp only [HAct.put, List.set_cons_zero, List.set_cons_succ]
    exact J3_snd hD hH h
def J1 (D : Dp) (H : Hd) (k : Nat) (y0 : (List UInt8)) (y5 : (Option HA)) (y8 : (List UInt8)) (y9 : Bool) (y39 : Bool) (S : HS) : Option ((Bool) × HS) :=
  (if y39 = true then
  J2 D H k y0 y5 y9 (decide (y8 = ([] : List UInt8))) S else
  J2 D H k y0 y5 y9 false S)
theorem J1_snd {D : Dp} {H : Hd} {k : Nat} (hD : DSound Try.prog base W0 D) (hH : HSound Try.prog base W0 β0 H)  {y0 : (List UInt8)} {y5 : (Option HA)} {y8 : (List UInt8)} {y9 : Bool} {y39 : Bool} {S : HS} {p : (Bool) × HS} {g1 g2 g3 g4 g6 g7 g10 g11 g12 g13 g14 g15 g16 g17 g18 g19 g20 g21 g22 g23 g24 g25 g26 g27 g28 g29 g30 g31 g32 g33 g34 g35 g36 g37 g38 g40 g41 g42 g43 g44 g45 g46 g47 g48 g49 g50 g51 g52 g53 g54 g55 g56 g57 g58 g59 g60 g61 g62 g63 g64 g65 g66 g67 g68 : HV} (h : J1 D H k y0 y5 y8 y9 y39 S = some p) : HRun Try.prog base W0 β0 6 none [.inRegion r25 [13, 14, 15, 16, 17, 18, 19, 20, 21, 22, 23, 24, 25, 26, 27, 28, 29, 30, 31, 32, 33, 34, 35, 36, 37, 38, 39, 40, 41, 42], .code c26] ⟨[(.str y0), g1, g2, g3, g4, (.ptr y5), g6, g7, (.str y8), (.bool y9), g10, g11, g12, g13, g14, g15, g16, g17, g18, g19, g20, g21, g22, g23, g24, g25, g26, g27, g28, g29, g30, g31, g32, g33, g34, g35, g36, g37, g38, (.bool y39), g40, g41, g42, g43, g44, g45, g46, g47, g48, g49, g50, g51, g52, g53, g54, g55, g56, g57, g58, g59, g60, g61, g62, g63, g64, g65, g66, g67, g68], []⟩ S (fun v S1 => v = (.bool p.1) ∧ S1 = p.2) := by
  unfold J1 at h
  refine q_op (dst := some 40) rfl (fun _ ho => ok_move ho (.tmp rfl)) ?_
  rcases ifc h with ⟨hc9, h⟩ | ⟨hc9, h⟩
  · refine q_op_g (t := 40) (dst := some 41) rfl rfl rfl hc9 (fun _ ho => ok_move ho (.tmp rfl)) ?_
    refine q_op_g (t := 40) (dst := some 42) rfl rfl rfl hc9 (fun _ ho => ok_sbin ho (.tmp rfl) (.str _) rfl) ?_
    try dsimp only [HAct.put, List.set_cons_zero, List.set_cons_succ]
    refine q_op (dst := some 43) rfl (fun _ ho => ok_pick_tt ho (.tmp rfl) hc9 (.tmp rfl)) ?_
    try dsimp only [HAct.put, List.set_cons_zero, List.set_cons_succ]
    exact J2_snd hD hH h
  · refine q_skip (dst := some 41) (t := 40) rfl rfl rfl (bfalse hc9) ?_
    refine q_skip (dst := some 42) (t := 40) rfl rfl rfl (bfalse hc9) ?_
    try dsimp only [HAct.put, List.set_cons_zero, List.set_cons_succ]
    refine q_op (dst := some 43) rfl (fun _ ho => ok_pick_ff ho (.tmp rfl) (bfalse hc9) (.bool _)) ?_
    try dsimp only [HAct.put, List.set_cons_zero, List.set_cons_succ]
    exact J2_snd hD hH h
def J0 (D : Dp) (H : Hd) (k : Nat) (y0 : (List UInt8)) (y5 : (Option HA)) (y7 : Bool) (y8 : (List UInt8)) (y9 : Bool) (y35 : Bool) (S : HS) : Option ((Bool) × HS) :=
  (if y35 = true then
  J1 D H k y0 y5 y8 y9 (!y7) S else
  J1 D H k y0 y5 y8 y9 false S)
theorem J0_snd {D : Dp} {H : Hd} {k : Nat} (hD : DSound Try.prog base W0 D) (hH : HSound Try.prog base W0 β0 H)  {y0 : (List UInt8)} {y5 : (Option HA)} {y7 : Bool} {y8 : (List UInt8)} {y9 : Bool} {y35 : Bool} {S : HS} {p : (Bool) × HS} {g1 g2 g3 g4 g6 g10 g11 g12 g13 g14 g15 g16 g17 g18 g19 g20 g21 g22 g23 g24 g25 g26 g27 g28 g29 g30 g31 g32 g33 g34 g36 g37 g38 g39 g40 g41 g42 g43 g44 g45 g46 g47 g48 g49 g50 g51 g52 g53 g54 g55 g56 g57 g58 g59 g60 g61 g62 g63 g64 g65 g66 g67 g68 : HV} (h : J0 D H k y0 y5 y7 y8 y9 y35 S = some p) : HRun Try.prog base W0 β0 6 none [.inRegion r25 [9, 10, 11, 12, 13, 14, 15, 16, 17, 18, 19, 20, 21, 22, 23, 24, 25, 26, 27, 28, 29, 30, 31, 32, 33, 34, 35, 36, 37, 38, 39, 40, 41, 42], .code c26] ⟨[(.str y0), g1, g2, g3, g4, (.ptr y5), g6, (.bool y7), (.str y8), (.bool y9), g10, g11, g12, g13, g14, g15, g16, g17, g18, g19, g20, g21, g22, g23, g24, g25, g26, g27, g28, g29, g30, g31, g32, g33, g34, (.bool y35), g36, g37, g38, g39, g40, g41, g42, g43, g44, g45, g46, g47, g48, g49, g50, g51, g52, g53, g54, g55, g56, g57, g58, g59, g60, g61, g62, g63, g64, g65, g66, g67, g68], []⟩ S (fun v S1 => v = (.bool p.1) ∧ S1 = p.2) := by
  unfold J0 at h
  refine q_op (dst := some 36) rfl (fun _ ho => ok_move ho (.tmp rfl)) ?_
  rcases ifc h with ⟨hc8, h⟩ | ⟨hc8, h⟩
  · refine q_op_g (t := 36) (dst := some 37) rfl rfl rfl hc8 (fun _ ho => ok_move ho (.tmp rfl)) ?_
    refine q_op_g (t := 36) (dst := some 38) rfl rfl rfl hc8 (fun _ ho => ok_not ho (.tmp rfl)) ?_
    try dsimp only [HAct.put, List.set_cons_zero, List.set_cons_succ]
    refine q_op (dst := some 39) rfl (fun _ ho => ok_pick_tt ho (.tmp rfl) hc8 (.tmp rfl)) ?_
    try dsimp only [HAct.put, List.set_cons_zero, List.set_cons_succ]
    exact J1_snd hD hH h
  · refine q_skip (dst := some 37) (t := 36) rfl rfl rfl (bfalse hc8) ?_
    refine q_skip (dst := some 38) (t := 36) rfl rfl rfl (bfalse hc8) ?_
    try dsimp only [HAct.put, List.set_cons_zero, List.set_cons_succ]
    refine q_op (dst := some 39) rfl (fun _ ho => ok_pick_ff ho (.tmp rfl) (bfalse hc8) (.bool _)) ?_
    try dsimp only [HAct.put, List.set_cons_zero, List.set_cons_succ]
    exact J1_snd hD hH h
def f (D : Dp) (H : Hd) (k : Nat) (x0 : (List UInt8)) (x1 : Int) (S : HS) : Option ((Bool) × HS) :=
  (Option.bind (rollcalllaw02_awake.f D H k S) fun p1 =>
  (if (!p1.1) = true then
  some (false, p1.2) else
  (if (List.length x0 : Int) > 30 then
  some (true, p1.2) else
  (Option.bind (book_Book_int_Get.f D H k none x0 p1.2) fun p4 =>
  (Option.bind (book_Book_int_Name.f D H k none x0 p4.2) fun p5 =>
  (Option.bind (book_Book_int_Put.f D H k none x0 x1 p5.2) fun p6 =>
  (if p6.1 = 1 then
  J0 D H k x0 none p4.1.2 p5.1.1 p5.1.2 (decide (p4.1.1 = 0)) p6.2 else
  J0 D H k x0 none p4.1.2 p5.1.1 p5.1.2 false p6.2)))))))
theorem snd {D : Dp} {H : Hd} {k : Nat} {x0 : (List UInt8)} {x1 : Int} {S : HS} (hD : DSound Try.prog base W0 D) (hH : HSound Try.prog base W0 β0 H)  {p : (Bool) × HS} (h : f D H k x0 x1 S = some p) : HCall Try.prog base W0 β0 6 [(.str x0), (.int .i64 x1)] S (fun v S1 => v = (.bool p.1) ∧ S1 = p.2) := by
  unfold f at h
  refine HCall.of_run at_.at_ body ?_
  show HRun Try.prog base W0 β0 6 none [.code c0] ⟨[(.str x0), (.int .i64 x1), .tup [], .tup [], .tup [], .tup [], .tup [], .tup [], .tup [], .tup [], .tup [], .tup [], .tup [], .tup [], .tup [], .tup [], .tup [], .tup [], .tup [], .tup [], .tup [], .tup [], .tup [], .tup [], .tup [], .tup [], .tup [], .tup [], .tup [], .tup [], .tup [], .tup [], .tup [], .tup [], .tup [], .tup [], .tup [], .tup [], .tup [], .tup [], .tup [], .tup [], .tup [], .tup [], .tup [], .tup [], .tup [], .tup [], .tup [], .tup [], .tup [], .tup [], .tup [], .tup [], .tup [], .tup [], .tup [], .tup [], .tup [], .tup [], .tup [], .tup [], .tup [], .tup [], .tup [], .tup [], .tup [], .tup [], .tup []], []⟩ S _
  refine q_seq e0 ?_
  refine q_region e1 rfl ?_
  refine q_op (dst := some 4) rfl (fun _ ho => ok_assign ho (.bool _)) ?_
  refine hr_region_end ?_
  try dsimp only [HAct.put, List.set_cons_zero, List.set_cons_succ]
  refine q_seq e2 ?_
  refine q_seq e3 ?_
  refine q_region e4 rfl ?_
  obtain ⟨p1, hp1, h⟩ := bindo h
  refine q_call (dst := some 10) rfl (.func _) Evs.nil (HInv.static rollcalllaw02_awake.at_ rollcalllaw02_awake.body (rollcalllaw02_awake.snd hD hH hp1)) ?_
  rintro _ _ ⟨rfl, rfl⟩
  refine q_op (dst := some 11) rfl (fun _ ho => ok_not ho (.tmp rfl)) ?_
  refine hr_region_end ?_
  try dsimp only [HAct.put, List.set_cons_zero, List.set_cons_succ]
  rcases ifc h with ⟨hc2, h⟩ | ⟨hc2, h⟩
  · refine q_cond_t e5 (.tmp rfl) hc2 ?_
    refine q_seq e6 ?_
    refine q_region e7 rfl ?_
    refine q_op (dst := some 4) rfl (fun _ ho => ok_assign ho (.bool _)) ?_
    refine hr_region_end ?_
    try dsimp only [HAct.put, List.set_cons_zero, List.set_cons_succ]
    cases h
    exact q_ret e8 at_.at_ rfl (res1 rfl rfl) ⟨rfl, rfl⟩
  · refine q_cond_f e5 (.tmp rfl) (bfalse hc2) ?_
    refine q_skipc e9 ?_
    refine q_seq e10 ?_
    refine q_seq e11 ?_
    refine q_region e12 rfl ?_
    refine q_op (dst := some 12) rfl (fun _ ho => ok_move ho (.tmp rfl)) ?_
    refine q_op (dst := some 13) rfl (fun _ ho => ok_len_str ho rfl tu9 (.tmp rfl)) ?_
    refine q_op (dst := some 14) rfl (fun _ ho => ok_ibin ho (.tmp rfl) (.int _ _) rfl) ?_
    refine hr_region_end ?_
    try dsimp only [HAct.put, List.set_cons_zero, List.set_cons_succ]
    rcases ifc h with ⟨hc3, h⟩ | ⟨hc3, h⟩
    · refine q_cond_t e13 (.tmp rfl) (decide_eq_true hc3) ?_
      refine q_seq e14 ?_
      refine q_region e15 rfl ?_
      refine q_op (dst := some 4) rfl (fun _ ho => ok_assign ho (.bool _)) ?_
      refine hr_region_end ?_
      try dsimp only [HAct.put, List.set_cons_zero, List.set_cons_succ]
      cases h
      exact q_ret e16 at_.at_ rfl (res1 rfl rfl) ⟨rfl, rfl⟩
    · refine q_cond_f e13 (.tmp rfl) (decide_eq_false hc3) ?_
      refine q_skipc e17 ?_
      refine q_seq e18 ?_
      refine q_region e19 rfl ?_
      refine q_op (dst := some 5) rfl (fun _ ho => ok_assign ho (.const fun _ => .ptrNil)) ?_
      refine hr_region_end ?_
      try dsimp only [HAct.put, List.set_cons_zero, List.set_cons_succ]
      refine q_seq e20 ?_
      refine q_region e21 rfl ?_
      refine q_op (dst := some 16) rfl (fun _ ho => ok_move ho (.tmp rfl)) ?_
      refine q_op (dst := some 17) rfl (fun _ ho => ok_move ho (.tmp rfl)) ?_
      obtain ⟨p4, hp4, h⟩ := bindo h
      refine q_call (dst := some 18) rfl (.func _) (.cons (.tmp rfl) (.cons (.tmp rfl) Evs.nil)) (HInv.static book_Book_int_Get.at_ book_Book_int_Get.body (book_Book_int_Get.snd hD hH hp4)) ?_
      rintro _ _ ⟨rfl, rfl⟩
      refine q_op (dst := some 15) rfl (fun _ ho => ok_move ho (.tmp rfl)) ?_
      try dsimp only [HAct.put, List.set_cons_zero, List.set_cons_succ]
      refine q_op (dst := some 19) rfl (fun _ ho => ok_extract ho (.tmp rfl) rfl) ?_
      refine q_op (dst := some 20) rfl (fun _ ho => ok_extract ho (.tmp rfl) rfl) ?_
      refine q_op (dst := some 6) rfl (fun _ ho => ok_assign ho (.tmp rfl)) ?_
      refine q_op (dst := some 7) rfl (fun _ ho => ok_assign ho (.tmp rfl)) ?_
      refine hr_region_end ?_
      try dsimp only [HAct.put, List.set_cons_zero, List.set_cons_succ]
      refine q_seq e22 ?_
      refine q_region e23 rfl ?_
      refine q_op (dst := some 22) rfl (fun _ ho => ok_move ho (.tmp rfl)) ?_
      refine q_op (dst := some 23) rfl (fun _ ho => ok_move ho (.tmp rfl)) ?_
      obtain ⟨p5, hp5, h⟩ := bindo h
      refine q_call (dst := some 24) rfl (.func _) (.cons (.tmp rfl) (.cons (.tmp rfl) Evs.nil)) (HInv.static book_Book_int_Name.at_ book_Book_int_Name.body (book_Book_int_Name.snd hD hH hp5)) ?_
      rintro _ _ ⟨rfl, rfl⟩
      refine q_op (dst := some 21) rfl (fun _ ho => ok_move ho (.tmp rfl)) ?_
      try dsimp only [HAct.put, List.set_cons_zero, List.set_cons_succ]
      refine q_op (dst := some 25) rfl (fun _ ho => ok_extract ho (.tmp rfl) rfl) ?_
      refine q_op (dst := some 26) rfl (fun _ ho => ok_extract ho (.tmp rfl) rfl) ?_
      refine q_op (dst := some 8) rfl (fun _ ho => ok_assign ho (.tmp rfl)) ?_
      refine q_op (dst := some 9) rfl (fun _ ho => ok_assign ho (.tmp rfl)) ?_
      refine hr_region_end ?_
      try dsimp only [HAct.put, List.set_cons_zero, List.set_cons_succ]
      refine q_seq e24 ?_
      refine q_region e25 rfl ?_
      refine q_op (dst := some 27) rfl (fun _ ho => ok_move ho (.tmp rfl)) ?_
      refine q_op (dst := some 28) rfl (fun _ ho => ok_move ho (.tmp rfl)) ?_
      refine q_op (dst := some 29) rfl (fun _ ho => ok_move ho (.tmp rfl)) ?_
      obtain ⟨p6, hp6, h⟩ := bindo h
      refine q_call (dst := some 30) rfl (.func _) (.cons (.tmp rfl) (.cons (.tmp rfl) (.cons (.tmp rfl) Evs.nil))) (HInv.static book_Book_int_Put.at_ book_Book_int_Put.body (book_Book_int_Put.snd hD hH hp6)) ?_
      rintro _ _ ⟨rfl, rfl⟩
      try dsimp only [HAct.put, List.set_cons_zero, List.set_cons_succ]
      refine q_op (dst := some 31) rfl (fun _ ho => ok_ibin ho (.tmp rfl) (.int _ _) rfl) ?_
      refine q_op (dst := some 32) rfl (fun _ ho => ok_move ho (.tmp rfl)) ?_
      rcases ifc h with ⟨hc7, h⟩ | ⟨hc7, h⟩
      · refine q_op_g (t := 32) (dst := some 33) rfl rfl rfl (decide_eq_true hc7) (fun _ ho => ok_move ho (.tmp rfl)) ?_
        refine q_op_g (t := 32) (dst := some 34) rfl rfl rfl (decide_eq_true hc7) (fun _ ho => ok_ibin ho (.tmp rfl) (.int _ _) rfl) ?_
        try dsimp only [HAct.put, List.set_cons_zero, List.set_cons_succ]
        refine q_op (dst := some 35) rfl (fun _ ho => ok_pick_tt ho (.tmp rfl) (decide_eq_true hc7) (.tmp rfl)) ?_
        try dsimp only [HAct.put, List.set_cons_zero, List.set_cons_succ]
        exact J0_snd hD hH h
      · refine q_skip (dst := some 33) (t := 32) rfl rfl rfl (decide_eq_false hc7) ?_
        refine q_skip (dst := some 34) (t := 32) rfl rfl rfl (decide_eq_false hc7) ?_
        try dsimp only [HAct.put, List.set_cons_zero, List.set_cons_succ]
        refine q_op (dst := some 35) rfl (fun _ ho => ok_pick_ff ho (.tmp rfl) (decide_eq_false hc7) (.bool _)) ?_
        try dsimp only [HAct.put, List.set_cons_zero, List.set_cons_succ]
        exact J0_snd hD hH h
end
end rollcalllaw02_BookNone
section
variable {base : Nat} {W0 : World} {β0 : Bt}
def call_59 (D : Dp) (H : Hd) (k : Nat) (vs : List HV) (S : HS) : Option (HV × HS) :=
  Option.bind (args2 vs) fun a =>
  Option.bind (dA2 a.1) fun p0 =>
  Option.bind (dS p0.1) fun p1 =>
  Option.bind (dI .i64 p0.2) fun p2 =>
  Option.bind (dS a.2) fun p3 =>
  Option.bind (book_Book_int_at_1.f k p1 p2 p3 S) fun q =>
  some ((.int .i64 q.1), q.2)
theorem call_59_snd {D : Dp} {H : Hd} {k : Nat} (hD : DSound Try.prog base W0 D) (hH : HSound Try.prog base W0 β0 H) {vs : List HV} {S : HS} {p : HV × HS} (h : call_59 D H k vs S = some p) : HCall Try.prog base W0 β0 59 vs S (fun v1 S1 => v1 = p.1 ∧ S1 = p.2) := by
  unfold call_59 at h
  obtain ⟨a, ha, h⟩ := bindo h
  obtain ⟨p0, hp0, h⟩ := bindo h
  obtain ⟨p1, hp1, h⟩ := bindo h
  obtain ⟨p2, hp2, h⟩ := bindo h
  obtain ⟨p3, hp3, h⟩ := bindo h
  obtain ⟨q, hq, h⟩ := bindo h
  rw [args2_out ha, dA2_out hp0, dS_out hp1, dI_out hp2, dS_out hp3]
  cases h
  exact book_Book_int_at_1.snd hq
def call_69 (D : Dp) (H : Hd) (k : Nat) (vs : List HV) (S : HS) : Option (HV × HS) :=
  Option.bind (args2 vs) fun a =>
  Option.bind (dF a.1) fun p0 =>
  Option.bind (dP a.2) fun p1 =>
  Option.bind (book_told_int_1.f D H k p0 p1 S) fun q =>
  some (.tup [], q.2)
theorem call_69_snd {D : Dp} {H : Hd} {k : Nat} (hD : DSound Try.prog base W0 D) (hH : HSound Try.prog base W0 β0 H) {vs : List HV} {S : HS} {p : HV × HS} (h : call_69 D H k vs S = some p) : HCall Try.prog base W0 β0 69 vs S (fun v1 S1 => v1 = p.1 ∧ S1 = p.2) := by
  unfold call_69 at h
  obtain ⟨a, ha, h⟩ := bindo h
  obtain ⟨p0, hp0, h⟩ := bindo h
  obtain ⟨p1, hp1, h⟩ := bindo h
  obtain ⟨q, hq, h⟩ := bindo h
  rw [args2_out ha, dF_out hp0, dP_out hp1]
  cases h
  exact book_told_int_1.snd hD hH hq
def call_64 (D : Dp) (H : Hd) (k : Nat) (vs : List HV) (S : HS) : Option (HV × HS) :=
  Option.bind (args1 vs) fun a =>
  Option.bind (dF a) fun p0 =>
  Option.bind (book_Book_int_All_1.f p0) fun q =>
  some (.tup [], S)
theorem call_64_snd {D : Dp} {H : Hd} {k : Nat} (hD : DSound Try.prog base W0 D) (hH : HSound Try.prog base W0 β0 H) {vs : List HV} {S : HS} {p : HV × HS} (h : call_64 D H k vs S = some p) : HCall Try.prog base W0 β0 64 vs S (fun v1 S1 => v1 = p.1 ∧ S1 = p.2) := by
  unfold call_64 at h
  obtain ⟨a, ha, h⟩ := bindo h
  obtain ⟨p0, hp0, h⟩ := bindo h
  obtain ⟨q, hq, h⟩ := bindo h
  rw [args1_out ha, dF_out hp0]
  cases h
  exact book_Book_int_All_1.snd hq
def disp (k : Nat) : Nat → Dp
  | 0 => fun _ _ _ _ => none
  | n + 1 => fun H fv vs S => match fv with
    | .fn (.yield l) [] [] => Option.bind (H l) fun r => r vs S
    | .fn (.func f) xs ys => if f = 59 then call_59 (disp k n) H k (xs ++ vs ++ ys) S else if f = 69 then call_69 (disp k n) H k (xs ++ vs ++ ys) S else if f = 64 then call_64 (disp k n) H k (xs ++ vs ++ ys) S else none
    | _ => none
theorem disp_func {k n : Nat} {H : Hd} {f : Nat} {xs ys vs : List HV} {S : HS} : disp k (n + 1) H (.fn (.func f) xs ys) vs S = (if f = 59 then call_59 (disp k n) H k (xs ++ vs ++ ys) S else if f = 69 then call_69 (disp k n) H k (xs ++ vs ++ ys) S else if f = 64 then call_64 (disp k n) H k (xs ++ vs ++ ys) S else none) := rfl
theorem disp_yield {k n : Nat} {H : Hd} {l : Nat} {vs : List HV} {S : HS} : disp k (n + 1) H (.fn (.yield l) [] []) vs S = Option.bind (H l) fun r => r vs S := rfl
theorem disp_snd {k : Nat} : ∀ n, DSound Try.prog base W0 (disp k n) := by
  intro n
  induction n with
  | zero => intro _ _ _ _ _ _ _ _ h; cases h
  | succ n ih =>
    intro β0 H hH fv vs S v S' h
    unfold disp at h
    split at h
    · obtain ⟨r, hr, h⟩ := bindo h
      exact hH _ _ hr _ _ _ _ h
    · skip
      rcases ifc h with ⟨hf, h⟩ | ⟨hf, h⟩
      · subst hf; exact HInv.func book_Book_int_at_1.at_ book_Book_int_at_1.body (call_59_snd (k := k) ih hH h)
      rcases ifc h with ⟨hf, h⟩ | ⟨hf, h⟩
      · subst hf; exact HInv.func book_told_int_1.at_ book_told_int_1.body (call_69_snd (k := k) ih hH h)
      rcases ifc h with ⟨hf, h⟩ | ⟨hf, h⟩
      · subst hf; exact HInv.func book_Book_int_All_1.at_ book_Book_int_All_1.body (call_64_snd (k := k) ih hH h)
      cases h
    · cases h
end
end Go.Proofs.Ytlfdaflngmkldaa.X
