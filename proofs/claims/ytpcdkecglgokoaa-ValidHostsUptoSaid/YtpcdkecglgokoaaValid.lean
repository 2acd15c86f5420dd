/- Functions of the program, each as a Lean function over the layer HL: a call answers what the Lean function answers, where it answers. -/
import Derived.Test.YtpcdkecglgokoaaProg
import Derived.Test.YtpcdkecglgokoaaHLu
namespace Go.Proofs.Ytpcdkecglgokoaa.X
open Go.Proofs.Ytpcdkecglgokoaa.HL
set_option linter.unusedVariables false
set_option linter.unusedSimpArgs false
set_option maxRecDepth 20000
theorem ext43 : ExtAt Try.prog 43 Extern.BytealgIndexByte.indexByte := ⟨Try.f43, Try.func43, by kernel_rfl, by kernel_rfl, by kernel_rfl, by kernel_rfl⟩
theorem tu3 : Try.prog.underlying 3 = some (.int .i64) := by kernel_rfl
theorem tu5 : Try.prog.underlying 5 = some (.int .u8) := by kernel_rfl
theorem za34 : (Try.prog.info? 34).map (·.zero) = some (some (.agg (Array.replicate 256 (.int .u16 0)))) := by kernel_rfl
theorem ta34 : Try.prog.underlying 34 = some (.array 256 30) := by kernel_rfl
theorem sz30 : ∃ q, Try.prog.info? 30 = some q ∧ q.size = 1 := size_mk' (by kernel_rfl)
theorem sc30 : Scalar Try.prog 30 := ⟨(.int .u16), by kernel_rfl, trivial⟩
theorem ia34 : IsAgg Try.prog 34 256 := isAgg_mk2 (by kernel_rfl) (by kernel_rfl)
theorem sz34 : ∃ q, Try.prog.info? 34 = some q ∧ q.size = 256 := size_mk' (by kernel_rfl)
theorem tu9 : Try.prog.underlying 9 = some .string := by kernel_rfl
theorem el37 : ElemAt Try.prog 37 5 1 [(.int .u8 0)] := elemAt_mk (zv := (.int .u8 0)) (by_ := 1) (by kernel_rfl) (by kernel_rfl) (by decide) (fun β => VRels.cons (.int _ _) (VRels.nil β)) rfl (by decide) rfl
theorem tu37 : Try.prog.underlying 37 = some (.slice 5) := by kernel_rfl
theorem tu4 : Try.prog.underlying 4 = some .bool := by kernel_rfl
namespace valid_letter
abbrev id : Nat := 32
theorem at_ : FnAt Try.prog 32 Try.f32 := ⟨Try.func32, by kernel_rfl⟩
noncomputable def c0 : Code := (Try.f32.body).getD .skip
noncomputable def c1 : Code := match c0 with | .seq x _ => x | _ => .skip
noncomputable def c2 : Code := match c0 with | .seq _ x => x | _ => .skip
noncomputable def c3 : Code := match c2 with | .seq x _ => x | _ => .skip
noncomputable def c4 : Code := match c2 with | .seq _ x => x | _ => .skip
theorem e0 : c0 = .seq c1 c2 := by kernel_rfl
noncomputable def r1 : Array Oper := match c1 with | .region _ x _ => x | _ => #[]
theorem e1 : c1 = .region 0 r1 false := by kernel_rfl
theorem e2 : c2 = .seq c3 c4 := by kernel_rfl
noncomputable def r3 : Array Oper := match c3 with | .region _ x _ => x | _ => #[]
theorem e3 : c3 = .region 1 r3 false := by kernel_rfl
theorem e4 : c4 = .ret := by kernel_rfl
theorem body : Try.f32.body = some c0 := by kernel_rfl
section
variable {base : Nat} {W0 : World} {β0 : Bt}
def J1  (y16 : Bool) : Option (Bool) :=
  some y16
theorem J1_snd   {y16 : Bool} {S : HS} {p : Bool} {g0 g1 g2 g3 g4 g5 g6 g7 g8 g9 g10 g11 g12 g13 g14 g15 : HV} (h : J1  y16 = some p) : HRun Try.prog base W0 β0 32 none [.inRegion r3 [14], .code c4] ⟨[g0, g1, g2, g3, g4, g5, g6, g7, g8, g9, g10, g11, g12, g13, g14, g15, (.bool y16)], []⟩ S (fun v S1 => v = (.bool p) ∧ S1 = S) := by
  unfold J1 at h
  refine q_op (dst := some 2) rfl (fun _ ho => ok_assign ho (.tmp rfl)) ?_
  refine hr_region_end ?_
  try dsimp only [HAct.put, List.set_cons_zero, List.set_cons_succ]
  cases h
  exact q_ret e4 at_.at_ rfl (res1 rfl rfl) ⟨rfl, rfl⟩
def J2  (y9 : Bool) (y15 : Bool) : Option (Bool) :=
  (if y9 = true then
  J1 true else
  J1 y15)
theorem J2_snd   {y9 : Bool} {y15 : Bool} {S : HS} {p : Bool} {g0 g1 g2 g3 g4 g5 g6 g7 g8 g10 g11 g12 g13 g14 g16 : HV} (h : J2  y9 y15 = some p) : HRun Try.prog base W0 β0 32 none [.inRegion r3 [13, 14], .code c4] ⟨[g0, g1, g2, g3, g4, g5, g6, g7, g8, (.bool y9), g10, g11, g12, g13, g14, (.bool y15), g16], []⟩ S (fun v S1 => v = (.bool p) ∧ S1 = S) := by
  unfold J2 at h
  rcases ifc h with ⟨hc4, h⟩ | ⟨hc4, h⟩
  · refine q_op (dst := some 16) rfl (fun _ ho => ok_pick_tt ho (.tmp rfl) hc4 (.bool _)) ?_
    try dsimp only [HAct.put, List.set_cons_zero, List.set_cons_succ]
    exact J1_snd  h
  · refine q_op (dst := some 16) rfl (fun _ ho => ok_pick_ff ho (.tmp rfl) (bfalse hc4) (.tmp rfl)) ?_
    try dsimp only [HAct.put, List.set_cons_zero, List.set_cons_succ]
    exact J1_snd  h
def J0  (y0 : Int) (y8 : Bool) : Option (Bool) :=
  (if y8 = true then
  J1 true else
  (if y0 ≥ 65 then
  J2 y8 (decide (y0 ≤ 90)) else
  J2 y8 false))
theorem J0_snd   {y0 : Int} {y8 : Bool} {S : HS} {p : Bool} {g1 g2 g3 g4 g5 g6 g7 g9 g10 g11 g12 g13 g14 g15 g16 : HV} (h : J0  y0 y8 = some p) : HRun Try.prog base W0 β0 32 none [.inRegion r3 [6, 7, 8, 9, 10, 11, 12, 13, 14], .code c4] ⟨[(.int .i64 y0), g1, g2, g3, g4, g5, g6, g7, (.bool y8), g9, g10, g11, g12, g13, g14, g15, g16], []⟩ S (fun v S1 => v = (.bool p) ∧ S1 = S) := by
  unfold J0 at h
  refine q_op (dst := some 9) rfl (fun _ ho => ok_move ho (.tmp rfl)) ?_
  rcases ifc h with ⟨hc2, h⟩ | ⟨hc2, h⟩
  · refine q_skip (dst := some 10) (t := 9) rfl rfl rfl hc2 ?_
    try dsimp only [HAct.put, List.set_cons_zero, List.set_cons_succ]
    refine q_skip (dst := some 11) (t := 9) rfl rfl rfl hc2 ?_
    refine q_skip (dst := some 12) (t := 9) rfl rfl rfl hc2 ?_
    refine q_skip_u (dst := some 13) (t := 12) rfl rfl rfl ?_
    refine q_skip_u (dst := some 14) (t := 12) rfl rfl rfl ?_
    try dsimp only [HAct.put, List.set_cons_zero, List.set_cons_succ]
    refine q_skip (dst := some 15) (t := 9) rfl rfl rfl hc2 ?_
    refine q_op (dst := some 16) rfl (fun _ ho => ok_pick_tt ho (.tmp rfl) hc2 (.bool _)) ?_
    try dsimp only [HAct.put, List.set_cons_zero, List.set_cons_succ]
    exact J1_snd  h
  · refine q_op_g (t := 9) (dst := some 10) rfl rfl rfl (bfalse hc2) (fun _ ho => ok_move ho (.tmp rfl)) ?_
    try dsimp only [HAct.put, List.set_cons_zero, List.set_cons_succ]
    refine q_op_g (t := 9) (dst := some 11) rfl rfl rfl (bfalse hc2) (fun _ ho => ok_ibin ho (.tmp rfl) (.int _ _) rfl) ?_
    refine q_op_g (t := 9) (dst := some 12) rfl rfl rfl (bfalse hc2) (fun _ ho => ok_move ho (.tmp rfl)) ?_
    rcases ifc h with ⟨hc3, h⟩ | ⟨hc3, h⟩
    · refine q_op_g (t := 12) (dst := some 13) rfl rfl rfl (decide_eq_true hc3) (fun _ ho => ok_move ho (.tmp rfl)) ?_
      refine q_op_g (t := 12) (dst := some 14) rfl rfl rfl (decide_eq_true hc3) (fun _ ho => ok_ibin ho (.tmp rfl) (.int _ _) rfl) ?_
      try dsimp only [HAct.put, List.set_cons_zero, List.set_cons_succ]
      refine q_op_g (t := 9) (dst := some 15) rfl rfl rfl (bfalse hc2) (fun _ ho => ok_pick_tt ho (.tmp rfl) (decide_eq_true hc3) (.tmp rfl)) ?_
      try dsimp only [HAct.put, List.set_cons_zero, List.set_cons_succ]
      exact J2_snd  h
    · refine q_skip (dst := some 13) (t := 12) rfl rfl rfl (decide_eq_false hc3) ?_
      refine q_skip (dst := some 14) (t := 12) rfl rfl rfl (decide_eq_false hc3) ?_
      try dsimp only [HAct.put, List.set_cons_zero, List.set_cons_succ]
      refine q_op_g (t := 9) (dst := some 15) rfl rfl rfl (bfalse hc2) (fun _ ho => ok_pick_ff ho (.tmp rfl) (decide_eq_false hc3) (.bool _)) ?_
      try dsimp only [HAct.put, List.set_cons_zero, List.set_cons_succ]
      exact J2_snd  h
def f (x0 : Int) : Option (Bool) :=
  (if x0 ≥ 97 then
  J0 x0 (decide (x0 ≤ 122)) else
  J0 x0 false)
theorem snd {x0 : Int} {S : HS}  {p : Bool} (h : f x0 = some p) : HCall Try.prog base W0 β0 32 [(.int .i64 x0)] S (fun v S1 => v = (.bool p) ∧ S1 = S) := by
  unfold f at h
  refine HCall.of_run at_.at_ body ?_
  show HRun Try.prog base W0 β0 32 none [.code c0] ⟨[(.int .i64 x0), .tup [], .tup [], .tup [], .tup [], .tup [], .tup [], .tup [], .tup [], .tup [], .tup [], .tup [], .tup [], .tup [], .tup [], .tup [], .tup []], []⟩ S _
  refine q_seq e0 ?_
  refine q_region e1 rfl ?_
  refine q_op (dst := some 2) rfl (fun _ ho => ok_assign ho (.bool _)) ?_
  refine hr_region_end ?_
  try dsimp only [HAct.put, List.set_cons_zero, List.set_cons_succ]
  refine q_seq e2 ?_
  refine q_region e3 rfl ?_
  refine q_op (dst := some 3) rfl (fun _ ho => ok_move ho (.tmp rfl)) ?_
  refine q_op (dst := some 4) rfl (fun _ ho => ok_ibin ho (.tmp rfl) (.int _ _) rfl) ?_
  refine q_op (dst := some 5) rfl (fun _ ho => ok_move ho (.tmp rfl)) ?_
  rcases ifc h with ⟨hc1, h⟩ | ⟨hc1, h⟩
  · refine q_op_g (t := 5) (dst := some 6) rfl rfl rfl (decide_eq_true hc1) (fun _ ho => ok_move ho (.tmp rfl)) ?_
    try dsimp only [HAct.put, List.set_cons_zero, List.set_cons_succ]
    refine q_op_g (t := 5) (dst := some 7) rfl rfl rfl (decide_eq_true hc1) (fun _ ho => ok_ibin ho (.tmp rfl) (.int _ _) rfl) ?_
    refine q_op (dst := some 8) rfl (fun _ ho => ok_pick_tt ho (.tmp rfl) (decide_eq_true hc1) (.tmp rfl)) ?_
    try dsimp only [HAct.put, List.set_cons_zero, List.set_cons_succ]
    exact J0_snd  h
  · refine q_skip (dst := some 6) (t := 5) rfl rfl rfl (decide_eq_false hc1) ?_
    try dsimp only [HAct.put, List.set_cons_zero, List.set_cons_succ]
    refine q_skip (dst := some 7) (t := 5) rfl rfl rfl (decide_eq_false hc1) ?_
    refine q_op (dst := some 8) rfl (fun _ ho => ok_pick_ff ho (.tmp rfl) (decide_eq_false hc1) (.bool _)) ?_
    try dsimp only [HAct.put, List.set_cons_zero, List.set_cons_succ]
    exact J0_snd  h
end
end valid_letter
namespace internal_stringslite_IndexByte
abbrev id : Nat := 41
theorem at_ : FnAt Try.prog 41 Try.f41 := ⟨Try.func41, by kernel_rfl⟩
noncomputable def c0 : Code := (Try.f41.body).getD .skip
noncomputable def c1 : Code := match c0 with | .seq x _ => x | _ => .skip
noncomputable def c2 : Code := match c0 with | .seq _ x => x | _ => .skip
noncomputable def c3 : Code := match c2 with | .seq x _ => x | _ => .skip
noncomputable def c4 : Code := match c2 with | .seq _ x => x | _ => .skip
theorem e0 : c0 = .seq c1 c2 := by kernel_rfl
noncomputable def r1 : Array Oper := match c1 with | .region _ x _ => x | _ => #[]
theorem e1 : c1 = .region 0 r1 false := by kernel_rfl
theorem e2 : c2 = .seq c3 c4 := by kernel_rfl
noncomputable def r3 : Array Oper := match c3 with | .region _ x _ => x | _ => #[]
theorem e3 : c3 = .region 1 r3 false := by kernel_rfl
theorem e4 : c4 = .ret := by kernel_rfl
theorem body : Try.f41.body = some c0 := by kernel_rfl
section
variable {base : Nat} {W0 : World} {β0 : Bt}
def f (x0 : (List UInt8)) (x1 : Int) : Option (Int) :=
  some (bidx x0 x1)
theorem snd {x0 : (List UInt8)} {x1 : Int} {S : HS}  {p : Int} (h : f x0 x1 = some p) : HCall Try.prog base W0 β0 41 [(.str x0), (.int .u8 x1)] S (fun v S1 => v = (.int .i64 p) ∧ S1 = S) := by
  unfold f at h
  refine HCall.of_run at_.at_ body ?_
  show HRun Try.prog base W0 β0 41 none [.code c0] ⟨[(.str x0), (.int .u8 x1), .tup [], .tup [], .tup [], .tup [], .tup [], .tup []], []⟩ S _
  refine q_seq e0 ?_
  refine q_region e1 rfl ?_
  refine q_op (dst := some 4) rfl (fun _ ho => ok_assign ho (.int _ _)) ?_
  refine hr_region_end ?_
  try dsimp only [HAct.put, List.set_cons_zero, List.set_cons_succ]
  refine q_seq e2 ?_
  refine q_region e3 rfl ?_
  refine q_op (dst := some 5) rfl (fun _ ho => ok_move ho (.tmp rfl)) ?_
  refine q_op (dst := some 6) rfl (fun _ ho => ok_move ho (.tmp rfl)) ?_
  refine q_op (dst := some 7) rfl (fun _ ho => ok_idxByte ho ext43 (.tmp rfl) (.tmp rfl)) ?_
  refine q_op (dst := some 4) rfl (fun _ ho => ok_assign ho (.tmp rfl)) ?_
  refine hr_region_end ?_
  try dsimp only [HAct.put, List.set_cons_zero, List.set_cons_succ]
  cases h
  exact q_ret e4 at_.at_ rfl (res1 rfl rfl) ⟨rfl, rfl⟩
end
end internal_stringslite_IndexByte
namespace strings_IndexByte
abbrev id : Nat := 39
theorem at_ : FnAt Try.prog 39 Try.f39 := ⟨Try.func39, by kernel_rfl⟩
noncomputable def c0 : Code := (Try.f39.body).getD .skip
noncomputable def c1 : Code := match c0 with | .seq x _ => x | _ => .skip
noncomputable def c2 : Code := match c0 with | .seq _ x => x | _ => .skip
noncomputable def c3 : Code := match c2 with | .seq x _ => x | _ => .skip
noncomputable def c4 : Code := match c2 with | .seq _ x => x | _ => .skip
theorem e0 : c0 = .seq c1 c2 := by kernel_rfl
noncomputable def r1 : Array Oper := match c1 with | .region _ x _ => x | _ => #[]
theorem e1 : c1 = .region 0 r1 false := by kernel_rfl
theorem e2 : c2 = .seq c3 c4 := by kernel_rfl
noncomputable def r3 : Array Oper := match c3 with | .region _ x _ => x | _ => #[]
theorem e3 : c3 = .region 1 r3 false := by kernel_rfl
theorem e4 : c4 = .ret := by kernel_rfl
theorem body : Try.f39.body = some c0 := by kernel_rfl
section
variable {base : Nat} {W0 : World} {β0 : Bt}
def f (x0 : (List UInt8)) (x1 : Int) : Option (Int) :=
  (Option.bind (internal_stringslite_IndexByte.f x0 x1) fun p1 =>
  some p1)
theorem snd {x0 : (List UInt8)} {x1 : Int} {S : HS}  {p : Int} (h : f x0 x1 = some p) : HCall Try.prog base W0 β0 39 [(.str x0), (.int .u8 x1)] S (fun v S1 => v = (.int .i64 p) ∧ S1 = S) := by
  unfold f at h
  refine HCall.of_run at_.at_ body ?_
  show HRun Try.prog base W0 β0 39 none [.code c0] ⟨[(.str x0), (.int .u8 x1), .tup [], .tup [], .tup [], .tup [], .tup [], .tup []], []⟩ S _
  refine q_seq e0 ?_
  refine q_region e1 rfl ?_
  refine q_op (dst := some 4) rfl (fun _ ho => ok_assign ho (.int _ _)) ?_
  refine hr_region_end ?_
  try dsimp only [HAct.put, List.set_cons_zero, List.set_cons_succ]
  refine q_seq e2 ?_
  refine q_region e3 rfl ?_
  refine q_op (dst := some 5) rfl (fun _ ho => ok_move ho (.tmp rfl)) ?_
  refine q_op (dst := some 6) rfl (fun _ ho => ok_move ho (.tmp rfl)) ?_
  obtain ⟨p1, hp1, h⟩ := bindo h
  refine q_call (dst := some 7) rfl (.func _) (.cons (.tmp rfl) (.cons (.tmp rfl) Evs.nil)) (HInv.static internal_stringslite_IndexByte.at_ internal_stringslite_IndexByte.body (internal_stringslite_IndexByte.snd  hp1)) ?_
  rintro _ _ ⟨rfl, rfl⟩
  refine q_op (dst := some 4) rfl (fun _ ho => ok_assign ho (.tmp rfl)) ?_
  refine hr_region_end ?_
  try dsimp only [HAct.put, List.set_cons_zero, List.set_cons_succ]
  cases h
  exact q_ret e4 at_.at_ rfl (res1 rfl rfl) ⟨rfl, rfl⟩
end
end strings_IndexByte
namespace valid_has
abbrev id : Nat := 33
theorem at_ : FnAt Try.prog 33 Try.f33 := ⟨Try.func33, by kernel_rfl⟩
noncomputable def c0 : Code := (Try.f33.body).getD .skip
noncomputable def c1 : Code := match c0 with | .seq x _ => x | _ => .skip
noncomputable def c2 : Code := match c0 with | .seq _ x => x | _ => .skip
noncomputable def c3 : Code := match c2 with | .seq x _ => x | _ => .skip
noncomputable def c4 : Code := match c2 with | .seq _ x => x | _ => .skip
theorem e0 : c0 = .seq c1 c2 := by kernel_rfl
noncomputable def r1 : Array Oper := match c1 with | .region _ x _ => x | _ => #[]
theorem e1 : c1 = .region 0 r1 false := by kernel_rfl
theorem e2 : c2 = .seq c3 c4 := by kernel_rfl
noncomputable def r3 : Array Oper := match c3 with | .region _ x _ => x | _ => #[]
theorem e3 : c3 = .region 1 r3 false := by kernel_rfl
theorem e4 : c4 = .ret := by kernel_rfl
theorem body : Try.f33.body = some c0 := by kernel_rfl
section
variable {base : Nat} {W0 : World} {β0 : Bt}
def f (x0 : (List UInt8)) (x1 : Int) : Option (Bool) :=
  (Option.bind (strings_IndexByte.f x0 (w8 x1)) fun p1 =>
  some (decide (p1 ≥ 0)))
theorem snd {x0 : (List UInt8)} {x1 : Int} {S : HS}  {p : Bool} (h : f x0 x1 = some p) : HCall Try.prog base W0 β0 33 [(.str x0), (.int .i64 x1)] S (fun v S1 => v = (.bool p) ∧ S1 = S) := by
  unfold f at h
  refine HCall.of_run at_.at_ body ?_
  show HRun Try.prog base W0 β0 33 none [.code c0] ⟨[(.str x0), (.int .i64 x1), .tup [], .tup [], .tup [], .tup [], .tup [], .tup [], .tup [], .tup []], []⟩ S _
  refine q_seq e0 ?_
  refine q_region e1 rfl ?_
  refine q_op (dst := some 4) rfl (fun _ ho => ok_assign ho (.bool _)) ?_
  refine hr_region_end ?_
  try dsimp only [HAct.put, List.set_cons_zero, List.set_cons_succ]
  refine q_seq e2 ?_
  refine q_region e3 rfl ?_
  refine q_op (dst := some 5) rfl (fun _ ho => ok_move ho (.tmp rfl)) ?_
  refine q_op (dst := some 6) rfl (fun _ ho => ok_move ho (.tmp rfl)) ?_
  refine q_op (dst := some 7) rfl (fun _ ho => ok_conv_int ho tu3 tu5 (.tmp rfl)) ?_
  obtain ⟨p1, hp1, h⟩ := bindo h
  refine q_call (dst := some 8) rfl (.func _) (.cons (.tmp rfl) (.cons (.tmp rfl) Evs.nil)) (HInv.static strings_IndexByte.at_ strings_IndexByte.body (strings_IndexByte.snd  hp1)) ?_
  rintro _ _ ⟨rfl, rfl⟩
  try dsimp only [HAct.put, List.set_cons_zero, List.set_cons_succ]
  refine q_op (dst := some 9) rfl (fun _ ho => ok_ibin ho (.tmp rfl) (.int _ _) rfl) ?_
  refine q_op (dst := some 4) rfl (fun _ ho => ok_assign ho (.tmp rfl)) ?_
  refine hr_region_end ?_
  try dsimp only [HAct.put, List.set_cons_zero, List.set_cons_succ]
  cases h
  exact q_ret e4 at_.at_ rfl (res1 rfl rfl) ⟨rfl, rfl⟩
end
end valid_has
namespace valid_kinds
abbrev id : Nat := 34
theorem at_ : FnAt Try.prog 34 Try.f34 := ⟨Try.func34, by kernel_rfl⟩
noncomputable def c0 : Code := (Try.f34.body).getD .skip
noncomputable def c1 : Code := match c0 with | .seq x _ => x | _ => .skip
noncomputable def c2 : Code := match c0 with | .seq _ x => x | _ => .skip
noncomputable def c3 : Code := match c2 with | .seq x _ => x | _ => .skip
noncomputable def c4 : Code := match c2 with | .seq _ x => x | _ => .skip
noncomputable def c5 : Code := match c4 with | .seq x _ => x | _ => .skip
noncomputable def c6 : Code := match c5 with | .seq x _ => x | _ => .skip
noncomputable def c7 : Code := match c5 with | .seq _ x => x | _ => .skip
noncomputable def c8 : Code := match c7 with | .block _ x => x | _ => .skip
noncomputable def c9 : Code := match c8 with | .loop x => x | _ => .skip
noncomputable def c10 : Code := match c9 with | .seq x _ => x | _ => .skip
noncomputable def c11 : Code := match c9 with | .seq _ x => x | _ => .skip
noncomputable def c12 : Code := match c11 with | .seq x _ => x | _ => .skip
noncomputable def c13 : Code := match c12 with | .cond _ x _ => x | _ => .skip
noncomputable def c14 : Code := match c12 with | .cond _ _ x => x | _ => .skip
noncomputable def c15 : Code := match c11 with | .seq _ x => x | _ => .skip
noncomputable def c16 : Code := match c15 with | .seq x _ => x | _ => .skip
noncomputable def c17 : Code := match c16 with | .block _ x => x | _ => .skip
noncomputable def c18 : Code := match c17 with | .seq x _ => x | _ => .skip
noncomputable def c19 : Code := match c17 with | .seq _ x => x | _ => .skip
noncomputable def c20 : Code := match c19 with | .seq x _ => x | _ => .skip
noncomputable def c21 : Code := match c19 with | .seq _ x => x | _ => .skip
noncomputable def c22 : Code := match c21 with | .seq x _ => x | _ => .skip
noncomputable def c23 : Code := match c21 with | .seq _ x => x | _ => .skip
noncomputable def c24 : Code := match c23 with | .seq x _ => x | _ => .skip
noncomputable def c25 : Code := match c24 with | .seq x _ => x | _ => .skip
noncomputable def c26 : Code := match c24 with | .seq _ x => x | _ => .skip
noncomputable def c27 : Code := match c26 with | .cond _ x _ => x | _ => .skip
noncomputable def c28 : Code := match c26 with | .cond _ _ x => x | _ => .skip
noncomputable def c29 : Code := match c23 with | .seq _ x => x | _ => .skip
noncomputable def c30 : Code := match c29 with | .seq x _ => x | _ => .skip
noncomputable def c31 : Code := match c30 with | .seq x _ => x | _ => .skip
noncomputable def c32 : Code := match c30 with | .seq _ x => x | _ => .skip
noncomputable def c33 : Code := match c32 with | .cond _ x _ => x | _ => .skip
noncomputable def c34 : Code := match c32 with | .cond _ _ x => x | _ => .skip
noncomputable def c35 : Code := match c29 with | .seq _ x => x | _ => .skip
noncomputable def c36 : Code := match c35 with | .seq x _ => x | _ => .skip
noncomputable def c37 : Code := match c36 with | .seq x _ => x | _ => .skip
noncomputable def c38 : Code := match c36 with | .seq _ x => x | _ => .skip
noncomputable def c39 : Code := match c38 with | .cond _ x _ => x | _ => .skip
noncomputable def c40 : Code := match c38 with | .cond _ _ x => x | _ => .skip
noncomputable def c41 : Code := match c35 with | .seq _ x => x | _ => .skip
noncomputable def c42 : Code := match c41 with | .seq x _ => x | _ => .skip
noncomputable def c43 : Code := match c42 with | .seq x _ => x | _ => .skip
noncomputable def c44 : Code := match c42 with | .seq _ x => x | _ => .skip
noncomputable def c45 : Code := match c44 with | .cond _ x _ => x | _ => .skip
noncomputable def c46 : Code := match c44 with | .cond _ _ x => x | _ => .skip
noncomputable def c47 : Code := match c41 with | .seq _ x => x | _ => .skip
noncomputable def c48 : Code := match c47 with | .seq x _ => x | _ => .skip
noncomputable def c49 : Code := match c48 with | .seq x _ => x | _ => .skip
noncomputable def c50 : Code := match c48 with | .seq _ x => x | _ => .skip
noncomputable def c51 : Code := match c50 with | .cond _ x _ => x | _ => .skip
noncomputable def c52 : Code := match c50 with | .cond _ _ x => x | _ => .skip
noncomputable def c53 : Code := match c47 with | .seq _ x => x | _ => .skip
noncomputable def c54 : Code := match c53 with | .seq x _ => x | _ => .skip
noncomputable def c55 : Code := match c54 with | .seq x _ => x | _ => .skip
noncomputable def c56 : Code := match c54 with | .seq _ x => x | _ => .skip
noncomputable def c57 : Code := match c56 with | .cond _ x _ => x | _ => .skip
noncomputable def c58 : Code := match c56 with | .cond _ _ x => x | _ => .skip
noncomputable def c59 : Code := match c53 with | .seq _ x => x | _ => .skip
noncomputable def c60 : Code := match c59 with | .seq x _ => x | _ => .skip
noncomputable def c61 : Code := match c59 with | .seq _ x => x | _ => .skip
noncomputable def c62 : Code := match c61 with | .cond _ x _ => x | _ => .skip
noncomputable def c63 : Code := match c61 with | .cond _ _ x => x | _ => .skip
noncomputable def c64 : Code := match c15 with | .seq _ x => x | _ => .skip
noncomputable def c65 : Code := match c4 with | .seq _ x => x | _ => .skip
noncomputable def c66 : Code := match c65 with | .seq x _ => x | _ => .skip
noncomputable def c67 : Code := match c65 with | .seq _ x => x | _ => .skip
theorem e0 : c0 = .seq c1 c2 := by kernel_rfl
noncomputable def r1 : Array Oper := match c1 with | .region _ x _ => x | _ => #[]
theorem e1 : c1 = .region 0 r1 false := by kernel_rfl
theorem e2 : c2 = .seq c3 c4 := by kernel_rfl
noncomputable def r3 : Array Oper := match c3 with | .region _ x _ => x | _ => #[]
theorem e3 : c3 = .region 1 r3 false := by kernel_rfl
theorem e4 : c4 = .seq c5 c65 := by kernel_rfl
theorem e5 : c5 = .seq c6 c7 := by kernel_rfl
noncomputable def r6 : Array Oper := match c6 with | .region _ x _ => x | _ => #[]
theorem e6 : c6 = .region 2 r6 false := by kernel_rfl
theorem e7 : c7 = .block 0 c8 := by kernel_rfl
theorem e8 : c8 = .loop c9 := by kernel_rfl
theorem e9 : c9 = .seq c10 c11 := by kernel_rfl
noncomputable def r10 : Array Oper := match c10 with | .region _ x _ => x | _ => #[]
theorem e10 : c10 = .region 3 r10 false := by kernel_rfl
theorem e11 : c11 = .seq c12 c15 := by kernel_rfl
theorem e12 : c12 = .cond (.tmp 6) c13 c14 := by kernel_rfl
theorem e13 : c13 = .skip := by kernel_rfl
theorem e14 : c14 = .exit 0 := by kernel_rfl
theorem e15 : c15 = .seq c16 c64 := by kernel_rfl
theorem e16 : c16 = .block 1 c17 := by kernel_rfl
theorem e17 : c17 = .seq c18 c19 := by kernel_rfl
noncomputable def r18 : Array Oper := match c18 with | .region _ x _ => x | _ => #[]
theorem e18 : c18 = .region 4 r18 false := by kernel_rfl
theorem e19 : c19 = .seq c20 c21 := by kernel_rfl
noncomputable def r20 : Array Oper := match c20 with | .region _ x _ => x | _ => #[]
theorem e20 : c20 = .region 5 r20 false := by kernel_rfl
theorem e21 : c21 = .seq c22 c23 := by kernel_rfl
noncomputable def r22 : Array Oper := match c22 with | .region _ x _ => x | _ => #[]
theorem e22 : c22 = .region 6 r22 false := by kernel_rfl
theorem e23 : c23 = .seq c24 c29 := by kernel_rfl
theorem e24 : c24 = .seq c25 c26 := by kernel_rfl
noncomputable def r25 : Array Oper := match c25 with | .region _ x _ => x | _ => #[]
theorem e25 : c25 = .region 7 r25 false := by kernel_rfl
theorem e26 : c26 = .cond (.tmp 25) c27 c28 := by kernel_rfl
noncomputable def r27 : Array Oper := match c27 with | .region _ x _ => x | _ => #[]
theorem e27 : c27 = .region 8 r27 false := by kernel_rfl
theorem e28 : c28 = .skip := by kernel_rfl
theorem e29 : c29 = .seq c30 c35 := by kernel_rfl
theorem e30 : c30 = .seq c31 c32 := by kernel_rfl
noncomputable def r31 : Array Oper := match c31 with | .region _ x _ => x | _ => #[]
theorem e31 : c31 = .region 9 r31 false := by kernel_rfl
theorem e32 : c32 = .cond (.tmp 35) c33 c34 := by kernel_rfl
noncomputable def r33 : Array Oper := match c33 with | .region _ x _ => x | _ => #[]
theorem e33 : c33 = .region 10 r33 false := by kernel_rfl
theorem e34 : c34 = .skip := by kernel_rfl
theorem e35 : c35 = .seq c36 c41 := by kernel_rfl
theorem e36 : c36 = .seq c37 c38 := by kernel_rfl
noncomputable def r37 : Array Oper := match c37 with | .region _ x _ => x | _ => #[]
theorem e37 : c37 = .region 11 r37 false := by kernel_rfl
theorem e38 : c38 = .cond (.tmp 43) c39 c40 := by kernel_rfl
noncomputable def r39 : Array Oper := match c39 with | .region _ x _ => x | _ => #[]
theorem e39 : c39 = .region 12 r39 false := by kernel_rfl
theorem e40 : c40 = .skip := by kernel_rfl
theorem e41 : c41 = .seq c42 c47 := by kernel_rfl
theorem e42 : c42 = .seq c43 c44 := by kernel_rfl
noncomputable def r43 : Array Oper := match c43 with | .region _ x _ => x | _ => #[]
theorem e43 : c43 = .region 13 r43 false := by kernel_rfl
theorem e44 : c44 = .cond (.tmp 54) c45 c46 := by kernel_rfl
noncomputable def r45 : Array Oper := match c45 with | .region _ x _ => x | _ => #[]
theorem e45 : c45 = .region 14 r45 false := by kernel_rfl
theorem e46 : c46 = .skip := by kernel_rfl
theorem e47 : c47 = .seq c48 c53 := by kernel_rfl
theorem e48 : c48 = .seq c49 c50 := by kernel_rfl
noncomputable def r49 : Array Oper := match c49 with | .region _ x _ => x | _ => #[]
theorem e49 : c49 = .region 15 r49 false := by kernel_rfl
theorem e50 : c50 = .cond (.tmp 68) c51 c52 := by kernel_rfl
noncomputable def r51 : Array Oper := match c51 with | .region _ x _ => x | _ => #[]
theorem e51 : c51 = .region 16 r51 false := by kernel_rfl
theorem e52 : c52 = .skip := by kernel_rfl
theorem e53 : c53 = .seq c54 c59 := by kernel_rfl
theorem e54 : c54 = .seq c55 c56 := by kernel_rfl
noncomputable def r55 : Array Oper := match c55 with | .region _ x _ => x | _ => #[]
theorem e55 : c55 = .region 17 r55 false := by kernel_rfl
theorem e56 : c56 = .cond (.tmp 78) c57 c58 := by kernel_rfl
noncomputable def r57 : Array Oper := match c57 with | .region _ x _ => x | _ => #[]
theorem e57 : c57 = .region 18 r57 false := by kernel_rfl
theorem e58 : c58 = .skip := by kernel_rfl
theorem e59 : c59 = .seq c60 c61 := by kernel_rfl
noncomputable def r60 : Array Oper := match c60 with | .region _ x _ => x | _ => #[]
theorem e60 : c60 = .region 19 r60 false := by kernel_rfl
theorem e61 : c61 = .cond (.tmp 86) c62 c63 := by kernel_rfl
noncomputable def r62 : Array Oper := match c62 with | .region _ x _ => x | _ => #[]
theorem e62 : c62 = .region 20 r62 false := by kernel_rfl
theorem e63 : c63 = .skip := by kernel_rfl
noncomputable def r64 : Array Oper := match c64 with | .region _ x _ => x | _ => #[]
theorem e64 : c64 = .region 21 r64 false := by kernel_rfl
theorem e65 : c65 = .seq c66 c67 := by kernel_rfl
noncomputable def r66 : Array Oper := match c66 with | .region _ x _ => x | _ => #[]
theorem e66 : c66 = .region 22 r66 false := by kernel_rfl
theorem e67 : c67 = .ret := by kernel_rfl
theorem body : Try.f34.body = some c0 := by kernel_rfl
section
variable {base : Nat} {W0 : World} {β0 : Bt}
def J15 (k : Nat) (rec0 : (Option HA) → (Option HA) → Int → HS → Option (((List HV)) × HS)) (y0 : (Option HA)) (y1 : (Option HA)) (y5 : Int) (S : HS) : Option (((List HV)) × HS) :=
  rec0 y0 y1 (w64 (y5 + 1)) S
theorem J15_snd {k : Nat} {rec0 : (Option HA) → (Option HA) → Int → HS → Option (((List HV)) × HS)} (hrec0 : ∀ ⦃y0 : (Option HA)⦄ ⦃y1 : (Option HA)⦄ ⦃y5 : Int⦄ ⦃S : HS⦄ ⦃p : ((List HV)) × HS⦄ ⦃g2 g3 g4 g6 g7 g8 g9 g10 g11 g12 g13 g14 g15 g16 g17 g18 g19 g20 g21 g22 g23 g24 g25 g26 g27 g28 g29 g30 g31 g32 g33 g34 g35 g36 g37 g38 g39 g40 g41 g42 g43 g44 g45 g46 g47 g48 g49 g50 g51 g52 g53 g54 g55 g56 g57 g58 g59 g60 g61 g62 g63 g64 g65 g66 g67 g68 g69 g70 g71 g72 g73 g74 g75 g76 g77 g78 g79 g80 g81 g82 g83 g84 g85 g86 g87 g88 g89 g90 g91 g92 g93 : HV⦄, rec0 y0 y1 y5 S = some p → HRun Try.prog base W0 β0 34 none [.inLoop c9, .inBlock 0, .code c65] ⟨[(.ptr y0), (.ptr y1), g2, g3, g4, (.int .i64 y5), g6, g7, g8, g9, g10, g11, g12, g13, g14, g15, g16, g17, g18, g19, g20, g21, g22, g23, g24, g25, g26, g27, g28, g29, g30, g31, g32, g33, g34, g35, g36, g37, g38, g39, g40, g41, g42, g43, g44, g45, g46, g47, g48, g49, g50, g51, g52, g53, g54, g55, g56, g57, g58, g59, g60, g61, g62, g63, g64, g65, g66, g67, g68, g69, g70, g71, g72, g73, g74, g75, g76, g77, g78, g79, g80, g81, g82, g83, g84, g85, g86, g87, g88, g89, g90, g91, g92, g93], []⟩ S (fun v S1 => v = (.agg p.1) ∧ S1 = p.2)) {y0 : (Option HA)} {y1 : (Option HA)} {y5 : Int} {S : HS} {p : ((List HV)) × HS} {g2 g3 g4 g6 g7 g8 g9 g10 g11 g12 g13 g14 g15 g16 g17 g18 g19 g20 g21 g22 g23 g24 g25 g26 g27 g28 g29 g30 g31 g32 g33 g34 g35 g36 g37 g38 g39 g40 g41 g42 g43 g44 g45 g46 g47 g48 g49 g50 g51 g52 g53 g54 g55 g56 g57 g58 g59 g60 g61 g62 g63 g64 g65 g66 g67 g68 g69 g70 g71 g72 g73 g74 g75 g76 g77 g78 g79 g80 g81 g82 g83 g84 g85 g86 g87 g88 g89 g90 g91 g92 g93 : HV} (h : J15 k rec0 y0 y1 y5 S = some p) : HRun Try.prog base W0 β0 34 none [.code c64, .inLoop c9, .inBlock 0, .code c65] ⟨[(.ptr y0), (.ptr y1), g2, g3, g4, (.int .i64 y5), g6, g7, g8, g9, g10, g11, g12, g13, g14, g15, g16, g17, g18, g19, g20, g21, g22, g23, g24, g25, g26, g27, g28, g29, g30, g31, g32, g33, g34, g35, g36, g37, g38, g39, g40, g41, g42, g43, g44, g45, g46, g47, g48, g49, g50, g51, g52, g53, g54, g55, g56, g57, g58, g59, g60, g61, g62, g63, g64, g65, g66, g67, g68, g69, g70, g71, g72, g73, g74, g75, g76, g77, g78, g79, g80, g81, g82, g83, g84, g85, g86, g87, g88, g89, g90, g91, g92, g93], []⟩ S (fun v S1 => v = (.agg p.1) ∧ S1 = p.2) := by
  unfold J15 at h
  refine q_region e64 rfl ?_
  refine q_op (dst := some 92) rfl (fun _ ho => ok_ibin ho (.tmp rfl) (.int _ _) rfl) ?_
  refine q_op (dst := some 5) rfl (fun _ ho => ok_move ho (.tmp rfl)) ?_
  refine hr_region_end ?_
  try dsimp only [HAct.put, List.set_cons_zero, List.set_cons_succ]
  try dsimp only [HAct.put, List.set_cons_zero, List.set_cons_succ]
  exact hrec0 h
def J14 (k : Nat) (rec0 : (Option HA) → (Option HA) → Int → HS → Option (((List HV)) × HS)) (y0 : (Option HA)) (y1 : (Option HA)) (y2 : Int) (y5 : Int) (S : HS) : Option (((List HV)) × HS) :=
  (Option.bind (valid_has.f ([0, 10, 13] : List UInt8) y2) fun p58 =>
  (if (!p58) = true then
  (Option.bind (y1) fun p60 =>
  (if 0 ≤ (y2 : Int) ∧ (y2 : Int) < 256 then
  (Option.bind (HS.ldI S .u16 (HA.fld p60 (Int.toNat y2))) fun p62 =>
  (Option.bind (y1) fun p63 =>
  (if 0 ≤ (y2 : Int) ∧ (y2 : Int) < 256 then
  (Option.bind (HS.sets S (HA.fld p63 (Int.toNat y2)) [(.int .u16 (ior .u16 p62 64))]) fun p65 =>
  J15 k rec0 y0 y1 y5 p65) else none))) else none)) else
  J15 k rec0 y0 y1 y5 S))
theorem J14_snd {k : Nat} {rec0 : (Option HA) → (Option HA) → Int → HS → Option (((List HV)) × HS)} (hrec0 : ∀ ⦃y0 : (Option HA)⦄ ⦃y1 : (Option HA)⦄ ⦃y5 : Int⦄ ⦃S : HS⦄ ⦃p : ((List HV)) × HS⦄ ⦃g2 g3 g4 g6 g7 g8 g9 g10 g11 g12 g13 g14 g15 g16 g17 g18 g19 g20 g21 g22 g23 g24 g25 g26 g27 g28 g29 g30 g31 g32 g33 g34 g35 g36 g37 g38 g39 g40 g41 g42 g43 g44 g45 g46 g47 g48 g49 g50 g51 g52 g53 g54 g55 g56 g57 g58 g59 g60 g61 g62 g63 g64 g65 g66 g67 g68 g69 g70 g71 g72 g73 g74 g75 g76 g77 g78 g79 g80 g81 g82 g83 g84 g85 g86 g87 g88 g89 g90 g91 g92 g93 : HV⦄, rec0 y0 y1 y5 S = some p → HRun Try.prog base W0 β0 34 none [.inLoop c9, .inBlock 0, .code c65] ⟨[(.ptr y0), (.ptr y1), g2, g3, g4, (.int .i64 y5), g6, g7, g8, g9, g10, g11, g12, g13, g14, g15, g16, g17, g18, g19, g20, g21, g22, g23, g24, g25, g26, g27, g28, g29, g30, g31, g32, g33, g34, g35, g36, g37, g38, g39, g40, g41, g42, g43, g44, g45, g46, g47, g48, g49, g50, g51, g52, g53, g54, g55, g56, g57, g58, g59, g60, g61, g62, g63, g64, g65, g66, g67, g68, g69, g70, g71, g72, g73, g74, g75, g76, g77, g78, g79, g80, g81, g82, g83, g84, g85, g86, g87, g88, g89, g90, g91, g92, g93], []⟩ S (fun v S1 => v = (.agg p.1) ∧ S1 = p.2)) {y0 : (Option HA)} {y1 : (Option HA)} {y2 : Int} {y5 : Int} {S : HS} {p : ((List HV)) × HS} {g3 g4 g6 g7 g8 g9 g10 g11 g12 g13 g14 g15 g16 g17 g18 g19 g20 g21 g22 g23 g24 g25 g26 g27 g28 g29 g30 g31 g32 g33 g34 g35 g36 g37 g38 g39 g40 g41 g42 g43 g44 g45 g46 g47 g48 g49 g50 g51 g52 g53 g54 g55 g56 g57 g58 g59 g60 g61 g62 g63 g64 g65 g66 g67 g68 g69 g70 g71 g72 g73 g74 g75 g76 g77 g78 g79 g80 g81 g82 g83 g84 g85 g86 g87 g88 g89 g90 g91 g92 g93 : HV} (h : J14 k rec0 y0 y1 y2 y5 S = some p) : HRun Try.prog base W0 β0 34 none [.code c59, .inBlock 1, .code c64, .inLoop c9, .inBlock 0, .code c65] ⟨[(.ptr y0), (.ptr y1), (.int .i64 y2), g3, g4, (.int .i64 y5), g6, g7, g8, g9, g10, g11, g12, g13, g14, g15, g16, g17, g18, g19, g20, g21, g22, g23, g24, g25, g26, g27, g28, g29, g30, g31, g32, g33, g34, g35, g36, g37, g38, g39, g40, g41, g42, g43, g44, g45, g46, g47, g48, g49, g50, g51, g52, g53, g54, g55, g56, g57, g58, g59, g60, g61, g62, g63, g64, g65, g66, g67, g68, g69, g70, g71, g72, g73, g74, g75, g76, g77, g78, g79, g80, g81, g82, g83, g84, g85, g86, g87, g88, g89, g90, g91, g92, g93], []⟩ S (fun v S1 => v = (.agg p.1) ∧ S1 = p.2) := by
  unfold J14 at h
  refine q_seq e59 ?_
  refine q_region e60 rfl ?_
  refine q_op (dst := some 84) rfl (fun _ ho => ok_move ho (.tmp rfl)) ?_
  obtain ⟨p58, hp58, h⟩ := bindo h
  refine q_call (dst := some 85) rfl (.func _) (.cons (.str _) (.cons (.tmp rfl) Evs.nil)) (HInv.static valid_has.at_ valid_has.body (valid_has.snd  hp58)) ?_
  rintro _ _ ⟨rfl, rfl⟩
  refine q_op (dst := some 86) rfl (fun _ ho => ok_not ho (.tmp rfl)) ?_
  refine hr_region_end ?_
  try dsimp only [HAct.put, List.set_cons_zero, List.set_cons_succ]
  rcases ifc h with ⟨hc59, h⟩ | ⟨hc59, h⟩
  · refine q_cond_t e61 (.tmp rfl) hc59 ?_
    refine q_region e62 rfl ?_
    refine q_op (dst := some 87) rfl (fun _ ho => ok_move ho (.tmp rfl)) ?_
    obtain ⟨p60, hp60, h⟩ := bindo h
    obtain ⟨hg61, h⟩ := gd h
    refine q_op (dst := some 88) rfl (fun _ ho => ok_indexAddr_arr ho ta34 sz30 (.tmp rfl) hp60 (.tmp rfl) hg61) ?_
    obtain ⟨p62, hp62, h⟩ := bindo h
    refine q_op (dst := some 89) rfl (fun _ ho => ok_load_s ho sc30 (.tmp rfl) rfl (ldI_out hp62)) ?_
    refine q_op (dst := some 90) rfl (fun _ ho => ok_ibin ho (.tmp rfl) (.int _ _) rfl) ?_
    try dsimp only [HAct.put, List.set_cons_zero, List.set_cons_succ]
    obtain ⟨p63, hp63, h⟩ := bindo h
    obtain ⟨hg64, h⟩ := gd h
    refine q_op (dst := some 91) rfl (fun _ ho => ok_indexAddr_arr ho ta34 sz30 (.tmp rfl) hp63 (.tmp rfl) hg64) ?_
    obtain ⟨p65, hp65, h⟩ := bindo h
    refine q_op (dst := none) rfl (fun _ ho => ok_store_s (v := (.int .u16 (ior .u16 p62 64))) ho sz30 (.tmp rfl) rfl (.tmp rfl) rfl hp65) ?_
    refine hr_region_end ?_
    try dsimp only [HAct.put, List.set_cons_zero, List.set_cons_succ]
    refine hr_inBlock ?_
    try dsimp only [HAct.put, List.set_cons_zero, List.set_cons_succ]
    exact J15_snd hrec0 h
  · refine q_cond_f e61 (.tmp rfl) (bfalse hc59) ?_
    refine q_skipc e63 ?_
    refine hr_inBlock ?_
    try dsimp only [HAct.put, List.set_cons_zero, List.set_cons_succ]
    exact J15_snd hrec0 h
def J13 (k : Nat) (rec0 : (Option HA) → (Option HA) → Int → HS → Option (((List HV)) × HS)) (y0 : (Option HA)) (y1 : (Option HA)) (y2 : Int) (y5 : Int) (y78 : Bool) (S : HS) : Option (((List HV)) × HS) :=
  (if y78 = true then
  (Option.bind (y1) fun p52 =>
  (if 0 ≤ (y2 : Int) ∧ (y2 : Int) < 256 then
  (Option.bind (HS.ldI S .u16 (HA.fld p52 (Int.toNat y2))) fun p54 =>
  (Option.bind (y1) fun p55 =>
  (if 0 ≤ (y2 : Int) ∧ (y2 : Int) < 256 then
  (Option.bind (HS.sets S (HA.fld p55 (Int.toNat y2)) [(.int .u16 (ior .u16 p54 32))]) fun p57 =>
  J14 k rec0 y0 y1 y2 y5 p57) else none))) else none)) else
  J14 k rec0 y0 y1 y2 y5 S)
theorem J13_snd {k : Nat} {rec0 : (Option HA) → (Option HA) → Int → HS → Option (((List HV)) × HS)} (hrec0 : ∀ ⦃y0 : (Option HA)⦄ ⦃y1 : (Option HA)⦄ ⦃y5 : Int⦄ ⦃S : HS⦄ ⦃p : ((List HV)) × HS⦄ ⦃g2 g3 g4 g6 g7 g8 g9 g10 g11 g12 g13 g14 g15 g16 g17 g18 g19 g20 g21 g22 g23 g24 g25 g26 g27 g28 g29 g30 g31 g32 g33 g34 g35 g36 g37 g38 g39 g40 g41 g42 g43 g44 g45 g46 g47 g48 g49 g50 g51 g52 g53 g54 g55 g56 g57 g58 g59 g60 g61 g62 g63 g64 g65 g66 g67 g68 g69 g70 g71 g72 g73 g74 g75 g76 g77 g78 g79 g80 g81 g82 g83 g84 g85 g86 g87 g88 g89 g90 g91 g92 g93 : HV⦄, rec0 y0 y1 y5 S = some p → HRun Try.prog base W0 β0 34 none [.inLoop c9, .inBlock 0, .code c65] ⟨[(.ptr y0), (.ptr y1), g2, g3, g4, (.int .i64 y5), g6, g7, g8, g9, g10, g11, g12, g13, g14, g15, g16, g17, g18, g19, g20, g21, g22, g23, g24, g25, g26, g27, g28, g29, g30, g31, g32, g33, g34, g35, g36, g37, g38, g39, g40, g41, g42, g43, g44, g45, g46, g47, g48, g49, g50, g51, g52, g53, g54, g55, g56, g57, g58, g59, g60, g61, g62, g63, g64, g65, g66, g67, g68, g69, g70, g71, g72, g73, g74, g75, g76, g77, g78, g79, g80, g81, g82, g83, g84, g85, g86, g87, g88, g89, g90, g91, g92, g93], []⟩ S (fun v S1 => v = (.agg p.1) ∧ S1 = p.2)) {y0 : (Option HA)} {y1 : (Option HA)} {y2 : Int} {y5 : Int} {y78 : Bool} {S : HS} {p : ((List HV)) × HS} {g3 g4 g6 g7 g8 g9 g10 g11 g12 g13 g14 g15 g16 g17 g18 g19 g20 g21 g22 g23 g24 g25 g26 g27 g28 g29 g30 g31 g32 g33 g34 g35 g36 g37 g38 g39 g40 g41 g42 g43 g44 g45 g46 g47 g48 g49 g50 g51 g52 g53 g54 g55 g56 g57 g58 g59 g60 g61 g62 g63 g64 g65 g66 g67 g68 g69 g70 g71 g72 g73 g74 g75 g76 g77 g79 g80 g81 g82 g83 g84 g85 g86 g87 g88 g89 g90 g91 g92 g93 : HV} (h : J13 k rec0 y0 y1 y2 y5 y78 S = some p) : HRun Try.prog base W0 β0 34 none [.code c56, .code c59, .inBlock 1, .code c64, .inLoop c9, .inBlock 0, .code c65] ⟨[(.ptr y0), (.ptr y1), (.int .i64 y2), g3, g4, (.int .i64 y5), g6, g7, g8, g9, g10, g11, g12, g13, g14, g15, g16, g17, g18, g19, g20, g21, g22, g23, g24, g25, g26, g27, g28, g29, g30, g31, g32, g33, g34, g35, g36, g37, g38, g39, g40, g41, g42, g43, g44, g45, g46, g47, g48, g49, g50, g51, g52, g53, g54, g55, g56, g57, g58, g59, g60, g61, g62, g63, g64, g65, g66, g67, g68, g69, g70, g71, g72, g73, g74, g75, g76, g77, (.bool y78), g79, g80, g81, g82, g83, g84, g85, g86, g87, g88, g89, g90, g91, g92, g93], []⟩ S (fun v S1 => v = (.agg p.1) ∧ S1 = p.2) := by
  unfold J13 at h
  rcases ifc h with ⟨hc51, h⟩ | ⟨hc51, h⟩
  · refine q_cond_t e56 (.tmp rfl) hc51 ?_
    refine q_region e57 rfl ?_
    refine q_op (dst := some 79) rfl (fun _ ho => ok_move ho (.tmp rfl)) ?_
    obtain ⟨p52, hp52, h⟩ := bindo h
    obtain ⟨hg53, h⟩ := gd h
    refine q_op (dst := some 80) rfl (fun _ ho => ok_indexAddr_arr ho ta34 sz30 (.tmp rfl) hp52 (.tmp rfl) hg53) ?_
    obtain ⟨p54, hp54, h⟩ := bindo h
    refine q_op (dst := some 81) rfl (fun _ ho => ok_load_s ho sc30 (.tmp rfl) rfl (ldI_out hp54)) ?_
    refine q_op (dst := some 82) rfl (fun _ ho => ok_ibin ho (.tmp rfl) (.int _ _) rfl) ?_
    try dsimp only [HAct.put, List.set_cons_zero, List.set_cons_succ]
    obtain ⟨p55, hp55, h⟩ := bindo h
    obtain ⟨hg56, h⟩ := gd h
    refine q_op (dst := some 83) rfl (fun _ ho => ok_indexAddr_arr ho ta34 sz30 (.tmp rfl) hp55 (.tmp rfl) hg56) ?_
    obtain ⟨p57, hp57, h⟩ := bindo h
    refine q_op (dst := none) rfl (fun _ ho => ok_store_s (v := (.int .u16 (ior .u16 p54 32))) ho sz30 (.tmp rfl) rfl (.tmp rfl) rfl hp57) ?_
    refine hr_region_end ?_
    try dsimp only [HAct.put, List.set_cons_zero, List.set_cons_succ]
    try dsimp only [HAct.put, List.set_cons_zero, List.set_cons_succ]
    exact J14_snd hrec0 h
  · refine q_cond_f e56 (.tmp rfl) (bfalse hc51) ?_
    refine q_skipc e58 ?_
    try dsimp only [HAct.put, List.set_cons_zero, List.set_cons_succ]
    exact J14_snd hrec0 h
def J12 (k : Nat) (rec0 : (Option HA) → (Option HA) → Int → HS → Option (((List HV)) × HS)) (y0 : (Option HA)) (y1 : (Option HA)) (y2 : Int) (y4 : Bool) (y5 : Int) (S : HS) : Option (((List HV)) × HS) :=
  (if y4 = true then
  J13 k rec0 y0 y1 y2 y5 (!decide (y2 = 44)) S else
  J13 k rec0 y0 y1 y2 y5 false S)
theorem J12_snd {k : Nat} {rec0 : (Option HA) → (Option HA) → Int → HS → Option (((List HV)) × HS)} (hrec0 : ∀ ⦃y0 : (Option HA)⦄ ⦃y1 : (Option HA)⦄ ⦃y5 : Int⦄ ⦃S : HS⦄ ⦃p : ((List HV)) × HS⦄ ⦃g2 g3 g4 g6 g7 g8 g9 g10 g11 g12 g13 g14 g15 g16 g17 g18 g19 g20 g21 g22 g23 g24 g25 g26 g27 g28 g29 g30 g31 g32 g33 g34 g35 g36 g37 g38 g39 g40 g41 g42 g43 g44 g45 g46 g47 g48 g49 g50 g51 g52 g53 g54 g55 g56 g57 g58 g59 g60 g61 g62 g63 g64 g65 g66 g67 g68 g69 g70 g71 g72 g73 g74 g75 g76 g77 g78 g79 g80 g81 g82 g83 g84 g85 g86 g87 g88 g89 g90 g91 g92 g93 : HV⦄, rec0 y0 y1 y5 S = some p → HRun Try.prog base W0 β0 34 none [.inLoop c9, .inBlock 0, .code c65] ⟨[(.ptr y0), (.ptr y1), g2, g3, g4, (.int .i64 y5), g6, g7, g8, g9, g10, g11, g12, g13, g14, g15, g16, g17, g18, g19, g20, g21, g22, g23, g24, g25, g26, g27, g28, g29, g30, g31, g32, g33, g34, g35, g36, g37, g38, g39, g40, g41, g42, g43, g44, g45, g46, g47, g48, g49, g50, g51, g52, g53, g54, g55, g56, g57, g58, g59, g60, g61, g62, g63, g64, g65, g66, g67, g68, g69, g70, g71, g72, g73, g74, g75, g76, g77, g78, g79, g80, g81, g82, g83, g84, g85, g86, g87, g88, g89, g90, g91, g92, g93], []⟩ S (fun v S1 => v = (.agg p.1) ∧ S1 = p.2)) {y0 : (Option HA)} {y1 : (Option HA)} {y2 : Int} {y4 : Bool} {y5 : Int} {S : HS} {p : ((List HV)) × HS} {g3 g6 g7 g8 g9 g10 g11 g12 g13 g14 g15 g16 g17 g18 g19 g20 g21 g22 g23 g24 g25 g26 g27 g28 g29 g30 g31 g32 g33 g34 g35 g36 g37 g38 g39 g40 g41 g42 g43 g44 g45 g46 g47 g48 g49 g50 g51 g52 g53 g54 g55 g56 g57 g58 g59 g60 g61 g62 g63 g64 g65 g66 g67 g68 g69 g70 g71 g72 g73 g74 g75 g76 g77 g78 g79 g80 g81 g82 g83 g84 g85 g86 g87 g88 g89 g90 g91 g92 g93 : HV} (h : J12 k rec0 y0 y1 y2 y4 y5 S = some p) : HRun Try.prog base W0 β0 34 none [.code c53, .inBlock 1, .code c64, .inLoop c9, .inBlock 0, .code c65] ⟨[(.ptr y0), (.ptr y1), (.int .i64 y2), g3, (.bool y4), (.int .i64 y5), g6, g7, g8, g9, g10, g11, g12, g13, g14, g15, g16, g17, g18, g19, g20, g21, g22, g23, g24, g25, g26, g27, g28, g29, g30, g31, g32, g33, g34, g35, g36, g37, g38, g39, g40, g41, g42, g43, g44, g45, g46, g47, g48, g49, g50, g51, g52, g53, g54, g55, g56, g57, g58, g59, g60, g61, g62, g63, g64, g65, g66, g67, g68, g69, g70, g71, g72, g73, g74, g75, g76, g77, g78, g79, g80, g81, g82, g83, g84, g85, g86, g87, g88, g89, g90, g91, g92, g93], []⟩ S (fun v S1 => v = (.agg p.1) ∧ S1 = p.2) := by
  unfold J12 at h
  refine q_seq e53 ?_
  refine q_seq e54 ?_
  refine q_region e55 rfl ?_
  refine q_op (dst := some 74) rfl (fun _ ho => ok_move ho (.tmp rfl)) ?_
  refine q_op (dst := some 75) rfl (fun _ ho => ok_move ho (.tmp rfl)) ?_
  rcases ifc h with ⟨hc50, h⟩ | ⟨hc50, h⟩
  · refine q_op_g (t := 75) (dst := some 76) rfl rfl rfl hc50 (fun _ ho => ok_move ho (.tmp rfl)) ?_
    refine q_op_g (t := 75) (dst := some 77) rfl rfl rfl hc50 (fun _ ho => ok_ibin ho (.tmp rfl) (.int _ _) rfl) ?_
    try dsimp only [HAct.put, List.set_cons_zero, List.set_cons_succ]
    refine q_op (dst := some 78) rfl (fun _ ho => ok_pick_tt ho (.tmp rfl) hc50 (.tmp rfl)) ?_
    refine hr_region_end ?_
    try dsimp only [HAct.put, List.set_cons_zero, List.set_cons_succ]
    try dsimp only [HAct.put, List.set_cons_zero, List.set_cons_succ]
    exact J13_snd hrec0 h
  · refine q_skip (dst := some 76) (t := 75) rfl rfl rfl (bfalse hc50) ?_
    refine q_skip (dst := some 77) (t := 75) rfl rfl rfl (bfalse hc50) ?_
    try dsimp only [HAct.put, List.set_cons_zero, List.set_cons_succ]
    refine q_op (dst := some 78) rfl (fun _ ho => ok_pick_ff ho (.tmp rfl) (bfalse hc50) (.bool _)) ?_
    refine hr_region_end ?_
    try dsimp only [HAct.put, List.set_cons_zero, List.set_cons_succ]
    try dsimp only [HAct.put, List.set_cons_zero, List.set_cons_succ]
    exact J13_snd hrec0 h
def J11 (k : Nat) (rec0 : (Option HA) → (Option HA) → Int → HS → Option (((List HV)) × HS)) (y0 : (Option HA)) (y1 : (Option HA)) (y2 : Int) (y4 : Bool) (y5 : Int) (y68 : Bool) (S : HS) : Option (((List HV)) × HS) :=
  (if y68 = true then
  (Option.bind (y1) fun p44 =>
  (if 0 ≤ (y2 : Int) ∧ (y2 : Int) < 256 then
  (Option.bind (HS.ldI S .u16 (HA.fld p44 (Int.toNat y2))) fun p46 =>
  (Option.bind (y1) fun p47 =>
  (if 0 ≤ (y2 : Int) ∧ (y2 : Int) < 256 then
  (Option.bind (HS.sets S (HA.fld p47 (Int.toNat y2)) [(.int .u16 (ior .u16 p46 16))]) fun p49 =>
  J12 k rec0 y0 y1 y2 y4 y5 p49) else none))) else none)) else
  J12 k rec0 y0 y1 y2 y4 y5 S)
theorem J11_snd {k : Nat} {rec0 : (Option HA) → (Option HA) → Int → HS → Option (((List HV)) × HS)} (hrec0 : ∀ ⦃y0 : (Option HA)⦄ ⦃y1 : (Option HA)⦄ ⦃y5 : Int⦄ ⦃S : HS⦄ ⦃p : ((List HV)) × HS⦄ ⦃g2 g3 g4 g6 g7 g8 g9 g10 g11 g12 g13 g14 g15 g16 g17 g18 g19 g20 g21 g22 g23 g24 g25 g26 g27 g28 g29 g30 g31 g32 g33 g34 g35 g36 g37 g38 g39 g40 g41 g42 g43 g44 g45 g46 g47 g48 g49 g50 g51 g52 g53 g54 g55 g56 g57 g58 g59 g60 g61 g62 g63 g64 g65 g66 g67 g68 g69 g70 g71 g72 g73 g74 g75 g76 g77 g78 g79 g80 g81 g82 g83 g84 g85 g86 g87 g88 g89 g90 g91 g92 g93 : HV⦄, rec0 y0 y1 y5 S = some p → HRun Try.prog base W0 β0 34 none [.inLoop c9, .inBlock 0, .code c65] ⟨[(.ptr y0), (.ptr y1), g2, g3, g4, (.int .i64 y5), g6, g7, g8, g9, g10, g11, g12, g13, g14, g15, g16, g17, g18, g19, g20, g21, g22, g23, g24, g25, g26, g27, g28, g29, g30, g31, g32, g33, g34, g35, g36, g37, g38, g39, g40, g41, g42, g43, g44, g45, g46, g47, g48, g49, g50, g51, g52, g53, g54, g55, g56, g57, g58, g59, g60, g61, g62, g63, g64, g65, g66, g67, g68, g69, g70, g71, g72, g73, g74, g75, g76, g77, g78, g79, g80, g81, g82, g83, g84, g85, g86, g87, g88, g89, g90, g91, g92, g93], []⟩ S (fun v S1 => v = (.agg p.1) ∧ S1 = p.2)) {y0 : (Option HA)} {y1 : (Option HA)} {y2 : Int} {y4 : Bool} {y5 : Int} {y68 : Bool} {S : HS} {p : ((List HV)) × HS} {g3 g6 g7 g8 g9 g10 g11 g12 g13 g14 g15 g16 g17 g18 g19 g20 g21 g22 g23 g24 g25 g26 g27 g28 g29 g30 g31 g32 g33 g34 g35 g36 g37 g38 g39 g40 g41 g42 g43 g44 g45 g46 g47 g48 g49 g50 g51 g52 g53 g54 g55 g56 g57 g58 g59 g60 g61 g62 g63 g64 g65 g66 g67 g69 g70 g71 g72 g73 g74 g75 g76 g77 g78 g79 g80 g81 g82 g83 g84 g85 g86 g87 g88 g89 g90 g91 g92 g93 : HV} (h : J11 k rec0 y0 y1 y2 y4 y5 y68 S = some p) : HRun Try.prog base W0 β0 34 none [.code c50, .code c53, .inBlock 1, .code c64, .inLoop c9, .inBlock 0, .code c65] ⟨[(.ptr y0), (.ptr y1), (.int .i64 y2), g3, (.bool y4), (.int .i64 y5), g6, g7, g8, g9, g10, g11, g12, g13, g14, g15, g16, g17, g18, g19, g20, g21, g22, g23, g24, g25, g26, g27, g28, g29, g30, g31, g32, g33, g34, g35, g36, g37, g38, g39, g40, g41, g42, g43, g44, g45, g46, g47, g48, g49, g50, g51, g52, g53, g54, g55, g56, g57, g58, g59, g60, g61, g62, g63, g64, g65, g66, g67, (.bool y68), g69, g70, g71, g72, g73, g74, g75, g76, g77, g78, g79, g80, g81, g82, g83, g84, g85, g86, g87, g88, g89, g90, g91, g92, g93], []⟩ S (fun v S1 => v = (.agg p.1) ∧ S1 = p.2) := by
  unfold J11 at h
  rcases ifc h with ⟨hc43, h⟩ | ⟨hc43, h⟩
  · refine q_cond_t e50 (.tmp rfl) hc43 ?_
    refine q_region e51 rfl ?_
    refine q_op (dst := some 69) rfl (fun _ ho => ok_move ho (.tmp rfl)) ?_
    obtain ⟨p44, hp44, h⟩ := bindo h
    obtain ⟨hg45, h⟩ := gd h
    refine q_op (dst := some 70) rfl (fun _ ho => ok_indexAddr_arr ho ta34 sz30 (.tmp rfl) hp44 (.tmp rfl) hg45) ?_
    obtain ⟨p46, hp46, h⟩ := bindo h
    refine q_op (dst := some 71) rfl (fun _ ho => ok_load_s ho sc30 (.tmp rfl) rfl (ldI_out hp46)) ?_
    refine q_op (dst := some 72) rfl (fun _ ho => ok_ibin ho (.tmp rfl) (.int _ _) rfl) ?_
    try dsimp only [HAct.put, List.set_cons_zero, List.set_cons_succ]
    obtain ⟨p47, hp47, h⟩ := bindo h
    obtain ⟨hg48, h⟩ := gd h
    refine q_op (dst := some 73) rfl (fun _ ho => ok_indexAddr_arr ho ta34 sz30 (.tmp rfl) hp47 (.tmp rfl) hg48) ?_
    obtain ⟨p49, hp49, h⟩ := bindo h
    refine q_op (dst := none) rfl (fun _ ho => ok_store_s (v := (.int .u16 (ior .u16 p46 16))) ho sz30 (.tmp rfl) rfl (.tmp rfl) rfl hp49) ?_
    refine hr_region_end ?_
    try dsimp only [HAct.put, List.set_cons_zero, List.set_cons_succ]
    try dsimp only [HAct.put, List.set_cons_zero, List.set_cons_succ]
    exact J12_snd hrec0 h
  · refine q_cond_f e50 (.tmp rfl) (bfalse hc43) ?_
    refine q_skipc e52 ?_
    try dsimp only [HAct.put, List.set_cons_zero, List.set_cons_succ]
    exact J12_snd hrec0 h
def J10 (k : Nat) (rec0 : (Option HA) → (Option HA) → Int → HS → Option (((List HV)) × HS)) (y0 : (Option HA)) (y1 : (Option HA)) (y2 : Int) (y4 : Bool) (y5 : Int) (y64 : Bool) (S : HS) : Option (((List HV)) × HS) :=
  (if y64 = true then
  J11 k rec0 y0 y1 y2 y4 y5 true S else
  (Option.bind (valid_has.f ([46, 45, 58] : List UInt8) y2) fun p66 =>
  J11 k rec0 y0 y1 y2 y4 y5 p66 S))
theorem J10_snd {k : Nat} {rec0 : (Option HA) → (Option HA) → Int → HS → Option (((List HV)) × HS)} (hrec0 : ∀ ⦃y0 : (Option HA)⦄ ⦃y1 : (Option HA)⦄ ⦃y5 : Int⦄ ⦃S : HS⦄ ⦃p : ((List HV)) × HS⦄ ⦃g2 g3 g4 g6 g7 g8 g9 g10 g11 g12 g13 g14 g15 g16 g17 g18 g19 g20 g21 g22 g23 g24 g25 g26 g27 g28 g29 g30 g31 g32 g33 g34 g35 g36 g37 g38 g39 g40 g41 g42 g43 g44 g45 g46 g47 g48 g49 g50 g51 g52 g53 g54 g55 g56 g57 g58 g59 g60 g61 g62 g63 g64 g65 g66 g67 g68 g69 g70 g71 g72 g73 g74 g75 g76 g77 g78 g79 g80 g81 g82 g83 g84 g85 g86 g87 g88 g89 g90 g91 g92 g93 : HV⦄, rec0 y0 y1 y5 S = some p → HRun Try.prog base W0 β0 34 none [.inLoop c9, .inBlock 0, .code c65] ⟨[(.ptr y0), (.ptr y1), g2, g3, g4, (.int .i64 y5), g6, g7, g8, g9, g10, g11, g12, g13, g14, g15, g16, g17, g18, g19, g20, g21, g22, g23, g24, g25, g26, g27, g28, g29, g30, g31, g32, g33, g34, g35, g36, g37, g38, g39, g40, g41, g42, g43, g44, g45, g46, g47, g48, g49, g50, g51, g52, g53, g54, g55, g56, g57, g58, g59, g60, g61, g62, g63, g64, g65, g66, g67, g68, g69, g70, g71, g72, g73, g74, g75, g76, g77, g78, g79, g80, g81, g82, g83, g84, g85, g86, g87, g88, g89, g90, g91, g92, g93], []⟩ S (fun v S1 => v = (.agg p.1) ∧ S1 = p.2)) {y0 : (Option HA)} {y1 : (Option HA)} {y2 : Int} {y4 : Bool} {y5 : Int} {y64 : Bool} {S : HS} {p : ((List HV)) × HS} {g3 g6 g7 g8 g9 g10 g11 g12 g13 g14 g15 g16 g17 g18 g19 g20 g21 g22 g23 g24 g25 g26 g27 g28 g29 g30 g31 g32 g33 g34 g35 g36 g37 g38 g39 g40 g41 g42 g43 g44 g45 g46 g47 g48 g49 g50 g51 g52 g53 g54 g55 g56 g57 g58 g59 g60 g61 g62 g63 g65 g66 g67 g68 g69 g70 g71 g72 g73 g74 g75 g76 g77 g78 g79 g80 g81 g82 g83 g84 g85 g86 g87 g88 g89 g90 g91 g92 g93 : HV} (h : J10 k rec0 y0 y1 y2 y4 y5 y64 S = some p) : HRun Try.prog base W0 β0 34 none [.inRegion r49 [5, 6, 7, 8], .code c50, .code c53, .inBlock 1, .code c64, .inLoop c9, .inBlock 0, .code c65] ⟨[(.ptr y0), (.ptr y1), (.int .i64 y2), g3, (.bool y4), (.int .i64 y5), g6, g7, g8, g9, g10, g11, g12, g13, g14, g15, g16, g17, g18, g19, g20, g21, g22, g23, g24, g25, g26, g27, g28, g29, g30, g31, g32, g33, g34, g35, g36, g37, g38, g39, g40, g41, g42, g43, g44, g45, g46, g47, g48, g49, g50, g51, g52, g53, g54, g55, g56, g57, g58, g59, g60, g61, g62, g63, (.bool y64), g65, g66, g67, g68, g69, g70, g71, g72, g73, g74, g75, g76, g77, g78, g79, g80, g81, g82, g83, g84, g85, g86, g87, g88, g89, g90, g91, g92, g93], []⟩ S (fun v S1 => v = (.agg p.1) ∧ S1 = p.2) := by
  unfold J10 at h
  refine q_op (dst := some 65) rfl (fun _ ho => ok_move ho (.tmp rfl)) ?_
  rcases ifc h with ⟨hc42, h⟩ | ⟨hc42, h⟩
  · refine q_skip (dst := some 66) (t := 65) rfl rfl rfl hc42 ?_
    refine q_skip (dst := some 67) (t := 65) rfl rfl rfl hc42 ?_
    try dsimp only [HAct.put, List.set_cons_zero, List.set_cons_succ]
    refine q_op (dst := some 68) rfl (fun _ ho => ok_pick_tt ho (.tmp rfl) hc42 (.bool _)) ?_
    refine hr_region_end ?_
    try dsimp only [HAct.put, List.set_cons_zero, List.set_cons_succ]
    try dsimp only [HAct.put, List.set_cons_zero, List.set_cons_succ]
    exact J11_snd hrec0 h
  · refine q_op_g (t := 65) (dst := some 66) rfl rfl rfl (bfalse hc42) (fun _ ho => ok_move ho (.tmp rfl)) ?_
    obtain ⟨p66, hp66, h⟩ := bindo h
    refine q_call_g (t := 65) (dst := some 67) rfl rfl rfl (bfalse hc42) (.func _) (.cons (.str _) (.cons (.tmp rfl) Evs.nil)) (HInv.static valid_has.at_ valid_has.body (valid_has.snd  hp66)) ?_
    rintro _ _ ⟨rfl, rfl⟩
    try dsimp only [HAct.put, List.set_cons_zero, List.set_cons_succ]
    refine q_op (dst := some 68) rfl (fun _ ho => ok_pick_ff ho (.tmp rfl) (bfalse hc42) (.tmp rfl)) ?_
    refine hr_region_end ?_
    try dsimp only [HAct.put, List.set_cons_zero, List.set_cons_succ]
    try dsimp only [HAct.put, List.set_cons_zero, List.set_cons_succ]
    exact J11_snd hrec0 h
def J9 (k : Nat) (rec0 : (Option HA) → (Option HA) → Int → HS → Option (((List HV)) × HS)) (y0 : (Option HA)) (y1 : (Option HA)) (y2 : Int) (y3 : Bool) (y4 : Bool) (y5 : Int) (S : HS) : Option (((List HV)) × HS) :=
  (Option.bind (valid_letter.f y2) fun p40 =>
  (if p40 = true then
  J10 k rec0 y0 y1 y2 y4 y5 true S else
  J10 k rec0 y0 y1 y2 y4 y5 y3 S))
theorem J9_snd {k : Nat} {rec0 : (Option HA) → (Option HA) → Int → HS → Option (((List HV)) × HS)} (hrec0 : ∀ ⦃y0 : (Option HA)⦄ ⦃y1 : (Option HA)⦄ ⦃y5 : Int⦄ ⦃S : HS⦄ ⦃p : ((List HV)) × HS⦄ ⦃g2 g3 g4 g6 g7 g8 g9 g10 g11 g12 g13 g14 g15 g16 g17 g18 g19 g20 g21 g22 g23 g24 g25 g26 g27 g28 g29 g30 g31 g32 g33 g34 g35 g36 g37 g38 g39 g40 g41 g42 g43 g44 g45 g46 g47 g48 g49 g50 g51 g52 g53 g54 g55 g56 g57 g58 g59 g60 g61 g62 g63 g64 g65 g66 g67 g68 g69 g70 g71 g72 g73 g74 g75 g76 g77 g78 g79 g80 g81 g82 g83 g84 g85 g86 g87 g88 g89 g90 g91 g92 g93 : HV⦄, rec0 y0 y1 y5 S = some p → HRun Try.prog base W0 β0 34 none [.inLoop c9, .inBlock 0, .code c65] ⟨[(.ptr y0), (.ptr y1), g2, g3, g4, (.int .i64 y5), g6, g7, g8, g9, g10, g11, g12, g13, g14, g15, g16, g17, g18, g19, g20, g21, g22, g23, g24, g25, g26, g27, g28, g29, g30, g31, g32, g33, g34, g35, g36, g37, g38, g39, g40, g41, g42, g43, g44, g45, g46, g47, g48, g49, g50, g51, g52, g53, g54, g55, g56, g57, g58, g59, g60, g61, g62, g63, g64, g65, g66, g67, g68, g69, g70, g71, g72, g73, g74, g75, g76, g77, g78, g79, g80, g81, g82, g83, g84, g85, g86, g87, g88, g89, g90, g91, g92, g93], []⟩ S (fun v S1 => v = (.agg p.1) ∧ S1 = p.2)) {y0 : (Option HA)} {y1 : (Option HA)} {y2 : Int} {y3 : Bool} {y4 : Bool} {y5 : Int} {S : HS} {p : ((List HV)) × HS} {g6 g7 g8 g9 g10 g11 g12 g13 g14 g15 g16 g17 g18 g19 g20 g21 g22 g23 g24 g25 g26 g27 g28 g29 g30 g31 g32 g33 g34 g35 g36 g37 g38 g39 g40 g41 g42 g43 g44 g45 g46 g47 g48 g49 g50 g51 g52 g53 g54 g55 g56 g57 g58 g59 g60 g61 g62 g63 g64 g65 g66 g67 g68 g69 g70 g71 g72 g73 g74 g75 g76 g77 g78 g79 g80 g81 g82 g83 g84 g85 g86 g87 g88 g89 g90 g91 g92 g93 : HV} (h : J9 k rec0 y0 y1 y2 y3 y4 y5 S = some p) : HRun Try.prog base W0 β0 34 none [.code c47, .inBlock 1, .code c64, .inLoop c9, .inBlock 0, .code c65] ⟨[(.ptr y0), (.ptr y1), (.int .i64 y2), (.bool y3), (.bool y4), (.int .i64 y5), g6, g7, g8, g9, g10, g11, g12, g13, g14, g15, g16, g17, g18, g19, g20, g21, g22, g23, g24, g25, g26, g27, g28, g29, g30, g31, g32, g33, g34, g35, g36, g37, g38, g39, g40, g41, g42, g43, g44, g45, g46, g47, g48, g49, g50, g51, g52, g53, g54, g55, g56, g57, g58, g59, g60, g61, g62, g63, g64, g65, g66, g67, g68, g69, g70, g71, g72, g73, g74, g75, g76, g77, g78, g79, g80, g81, g82, g83, g84, g85, g86, g87, g88, g89, g90, g91, g92, g93], []⟩ S (fun v S1 => v = (.agg p.1) ∧ S1 = p.2) := by
  unfold J9 at h
  refine q_seq e47 ?_
  refine q_seq e48 ?_
  refine q_region e49 rfl ?_
  refine q_op (dst := some 60) rfl (fun _ ho => ok_move ho (.tmp rfl)) ?_
  obtain ⟨p40, hp40, h⟩ := bindo h
  refine q_call (dst := some 61) rfl (.func _) (.cons (.tmp rfl) Evs.nil) (HInv.static valid_letter.at_ valid_letter.body (valid_letter.snd  hp40)) ?_
  rintro _ _ ⟨rfl, rfl⟩
  refine q_op (dst := some 62) rfl (fun _ ho => ok_move ho (.tmp rfl)) ?_
  rcases ifc h with ⟨hc41, h⟩ | ⟨hc41, h⟩
  · refine q_skip (dst := some 63) (t := 62) rfl rfl rfl hc41 ?_
    try dsimp only [HAct.put, List.set_cons_zero, List.set_cons_succ]
    refine q_op (dst := some 64) rfl (fun _ ho => ok_pick_tt ho (.tmp rfl) hc41 (.bool _)) ?_
    try dsimp only [HAct.put, List.set_cons_zero, List.set_cons_succ]
    exact J10_snd hrec0 h
  · refine q_op_g (t := 62) (dst := some 63) rfl rfl rfl (bfalse hc41) (fun _ ho => ok_move ho (.tmp rfl)) ?_
    try dsimp only [HAct.put, List.set_cons_zero, List.set_cons_succ]
    refine q_op (dst := some 64) rfl (fun _ ho => ok_pick_ff ho (.tmp rfl) (bfalse hc41) (.tmp rfl)) ?_
    try dsimp only [HAct.put, List.set_cons_zero, List.set_cons_succ]
    exact J10_snd hrec0 h
def J8 (k : Nat) (rec0 : (Option HA) → (Option HA) → Int → HS → Option (((List HV)) × HS)) (y0 : (Option HA)) (y1 : (Option HA)) (y2 : Int) (y3 : Bool) (y4 : Bool) (y5 : Int) (y54 : Bool) (S : HS) : Option (((List HV)) × HS) :=
  (if y54 = true then
  (Option.bind (y1) fun p34 =>
  (if 0 ≤ (y2 : Int) ∧ (y2 : Int) < 256 then
  (Option.bind (HS.ldI S .u16 (HA.fld p34 (Int.toNat y2))) fun p36 =>
  (Option.bind (y1) fun p37 =>
  (if 0 ≤ (y2 : Int) ∧ (y2 : Int) < 256 then
  (Option.bind (HS.sets S (HA.fld p37 (Int.toNat y2)) [(.int .u16 (ior .u16 p36 8))]) fun p39 =>
  J9 k rec0 y0 y1 y2 y3 y4 y5 p39) else none))) else none)) else
  J9 k rec0 y0 y1 y2 y3 y4 y5 S)
theorem J8_snd {k : Nat} {rec0 : (Option HA) → (Option HA) → Int → HS → Option (((List HV)) × HS)} (hrec0 : ∀ ⦃y0 : (Option HA)⦄ ⦃y1 : (Option HA)⦄ ⦃y5 : Int⦄ ⦃S : HS⦄ ⦃p : ((List HV)) × HS⦄ ⦃g2 g3 g4 g6 g7 g8 g9 g10 g11 g12 g13 g14 g15 g16 g17 g18 g19 g20 g21 g22 g23 g24 g25 g26 g27 g28 g29 g30 g31 g32 g33 g34 g35 g36 g37 g38 g39 g40 g41 g42 g43 g44 g45 g46 g47 g48 g49 g50 g51 g52 g53 g54 g55 g56 g57 g58 g59 g60 g61 g62 g63 g64 g65 g66 g67 g68 g69 g70 g71 g72 g73 g74 g75 g76 g77 g78 g79 g80 g81 g82 g83 g84 g85 g86 g87 g88 g89 g90 g91 g92 g93 : HV⦄, rec0 y0 y1 y5 S = some p → HRun Try.prog base W0 β0 34 none [.inLoop c9, .inBlock 0, .code c65] ⟨[(.ptr y0), (.ptr y1), g2, g3, g4, (.int .i64 y5), g6, g7, g8, g9, g10, g11, g12, g13, g14, g15, g16, g17, g18, g19, g20, g21, g22, g23, g24, g25, g26, g27, g28, g29, g30, g31, g32, g33, g34, g35, g36, g37, g38, g39, g40, g41, g42, g43, g44, g45, g46, g47, g48, g49, g50, g51, g52, g53, g54, g55, g56, g57, g58, g59, g60, g61, g62, g63, g64, g65, g66, g67, g68, g69, g70, g71, g72, g73, g74, g75, g76, g77, g78, g79, g80, g81, g82, g83, g84, g85, g86, g87, g88, g89, g90, g91, g92, g93], []⟩ S (fun v S1 => v = (.agg p.1) ∧ S1 = p.2)) {y0 : (Option HA)} {y1 : (Option HA)} {y2 : Int} {y3 : Bool} {y4 : Bool} {y5 : Int} {y54 : Bool} {S : HS} {p : ((List HV)) × HS} {g6 g7 g8 g9 g10 g11 g12 g13 g14 g15 g16 g17 g18 g19 g20 g21 g22 g23 g24 g25 g26 g27 g28 g29 g30 g31 g32 g33 g34 g35 g36 g37 g38 g39 g40 g41 g42 g43 g44 g45 g46 g47 g48 g49 g50 g51 g52 g53 g55 g56 g57 g58 g59 g60 g61 g62 g63 g64 g65 g66 g67 g68 g69 g70 g71 g72 g73 g74 g75 g76 g77 g78 g79 g80 g81 g82 g83 g84 g85 g86 g87 g88 g89 g90 g91 g92 g93 : HV} (h : J8 k rec0 y0 y1 y2 y3 y4 y5 y54 S = some p) : HRun Try.prog base W0 β0 34 none [.code c44, .code c47, .inBlock 1, .code c64, .inLoop c9, .inBlock 0, .code c65] ⟨[(.ptr y0), (.ptr y1), (.int .i64 y2), (.bool y3), (.bool y4), (.int .i64 y5), g6, g7, g8, g9, g10, g11, g12, g13, g14, g15, g16, g17, g18, g19, g20, g21, g22, g23, g24, g25, g26, g27, g28, g29, g30, g31, g32, g33, g34, g35, g36, g37, g38, g39, g40, g41, g42, g43, g44, g45, g46, g47, g48, g49, g50, g51, g52, g53, (.bool y54), g55, g56, g57, g58, g59, g60, g61, g62, g63, g64, g65, g66, g67, g68, g69, g70, g71, g72, g73, g74, g75, g76, g77, g78, g79, g80, g81, g82, g83, g84, g85, g86, g87, g88, g89, g90, g91, g92, g93], []⟩ S (fun v S1 => v = (.agg p.1) ∧ S1 = p.2) := by
  unfold J8 at h
  rcases ifc h with ⟨hc33, h⟩ | ⟨hc33, h⟩
  · refine q_cond_t e44 (.tmp rfl) hc33 ?_
    refine q_region e45 rfl ?_
    refine q_op (dst := some 55) rfl (fun _ ho => ok_move ho (.tmp rfl)) ?_
    obtain ⟨p34, hp34, h⟩ := bindo h
    obtain ⟨hg35, h⟩ := gd h
    refine q_op (dst := some 56) rfl (fun _ ho => ok_indexAddr_arr ho ta34 sz30 (.tmp rfl) hp34 (.tmp rfl) hg35) ?_
    obtain ⟨p36, hp36, h⟩ := bindo h
    refine q_op (dst := some 57) rfl (fun _ ho => ok_load_s ho sc30 (.tmp rfl) rfl (ldI_out hp36)) ?_
    refine q_op (dst := some 58) rfl (fun _ ho => ok_ibin ho (.tmp rfl) (.int _ _) rfl) ?_
    try dsimp only [HAct.put, List.set_cons_zero, List.set_cons_succ]
    obtain ⟨p37, hp37, h⟩ := bindo h
    obtain ⟨hg38, h⟩ := gd h
    refine q_op (dst := some 59) rfl (fun _ ho => ok_indexAddr_arr ho ta34 sz30 (.tmp rfl) hp37 (.tmp rfl) hg38) ?_
    obtain ⟨p39, hp39, h⟩ := bindo h
    refine q_op (dst := none) rfl (fun _ ho => ok_store_s (v := (.int .u16 (ior .u16 p36 8))) ho sz30 (.tmp rfl) rfl (.tmp rfl) rfl hp39) ?_
    refine hr_region_end ?_
    try dsimp only [HAct.put, List.set_cons_zero, List.set_cons_succ]
    try dsimp only [HAct.put, List.set_cons_zero, List.set_cons_succ]
    exact J9_snd hrec0 h
  · refine q_cond_f e44 (.tmp rfl) (bfalse hc33) ?_
    refine q_skipc e46 ?_
    try dsimp only [HAct.put, List.set_cons_zero, List.set_cons_succ]
    exact J9_snd hrec0 h
def J7 (k : Nat) (rec0 : (Option HA) → (Option HA) → Int → HS → Option (((List HV)) × HS)) (y0 : (Option HA)) (y1 : (Option HA)) (y2 : Int) (y3 : Bool) (y4 : Bool) (y5 : Int) (S : HS) : Option (((List HV)) × HS) :=
  (if y4 = true then
  (Option.bind (valid_has.f ([33, 64, 42, 63, 58] : List UInt8) y2) fun p32 =>
  J8 k rec0 y0 y1 y2 y3 y4 y5 (!p32) S) else
  J8 k rec0 y0 y1 y2 y3 y4 y5 false S)
theorem J7_snd {k : Nat} {rec0 : (Option HA) → (Option HA) → Int → HS → Option (((List HV)) × HS)} (hrec0 : ∀ ⦃y0 : (Option HA)⦄ ⦃y1 : (Option HA)⦄ ⦃y5 : Int⦄ ⦃S : HS⦄ ⦃p : ((List HV)) × HS⦄ ⦃g2 g3 g4 g6 g7 g8 g9 g10 g11 g12 g13 g14 g15 g16 g17 g18 g19 g20 g21 g22 g23 g24 g25 g26 g27 g28 g29 g30 g31 g32 g33 g34 g35 g36 g37 g38 g39 g40 g41 g42 g43 g44 g45 g46 g47 g48 g49 g50 g51 g52 g53 g54 g55 g56 g57 g58 g59 g60 g61 g62 g63 g64 g65 g66 g67 g68 g69 g70 g71 g72 g73 g74 g75 g76 g77 g78 g79 g80 g81 g82 g83 g84 g85 g86 g87 g88 g89 g90 g91 g92 g93 : HV⦄, rec0 y0 y1 y5 S = some p → HRun Try.prog base W0 β0 34 none [.inLoop c9, .inBlock 0, .code c65] ⟨[(.ptr y0), (.ptr y1), g2, g3, g4, (.int .i64 y5), g6, g7, g8, g9, g10, g11, g12, g13, g14, g15, g16, g17, g18, g19, g20, g21, g22, g23, g24, g25, g26, g27, g28, g29, g30, g31, g32, g33, g34, g35, g36, g37, g38, g39, g40, g41, g42, g43, g44, g45, g46, g47, g48, g49, g50, g51, g52, g53, g54, g55, g56, g57, g58, g59, g60, g61, g62, g63, g64, g65, g66, g67, g68, g69, g70, g71, g72, g73, g74, g75, g76, g77, g78, g79, g80, g81, g82, g83, g84, g85, g86, g87, g88, g89, g90, g91, g92, g93], []⟩ S (fun v S1 => v = (.agg p.1) ∧ S1 = p.2)) {y0 : (Option HA)} {y1 : (Option HA)} {y2 : Int} {y3 : Bool} {y4 : Bool} {y5 : Int} {S : HS} {p : ((List HV)) × HS} {g6 g7 g8 g9 g10 g11 g12 g13 g14 g15 g16 g17 g18 g19 g20 g21 g22 g23 g24 g25 g26 g27 g28 g29 g30 g31 g32 g33 g34 g35 g36 g37 g38 g39 g40 g41 g42 g43 g44 g45 g46 g47 g48 g49 g50 g51 g52 g53 g54 g55 g56 g57 g58 g59 g60 g61 g62 g63 g64 g65 g66 g67 g68 g69 g70 g71 g72 g73 g74 g75 g76 g77 g78 g79 g80 g81 g82 g83 g84 g85 g86 g87 g88 g89 g90 g91 g92 g93 : HV} (h : J7 k rec0 y0 y1 y2 y3 y4 y5 S = some p) : HRun Try.prog base W0 β0 34 none [.code c41, .inBlock 1, .code c64, .inLoop c9, .inBlock 0, .code c65] ⟨[(.ptr y0), (.ptr y1), (.int .i64 y2), (.bool y3), (.bool y4), (.int .i64 y5), g6, g7, g8, g9, g10, g11, g12, g13, g14, g15, g16, g17, g18, g19, g20, g21, g22, g23, g24, g25, g26, g27, g28, g29, g30, g31, g32, g33, g34, g35, g36, g37, g38, g39, g40, g41, g42, g43, g44, g45, g46, g47, g48, g49, g50, g51, g52, g53, g54, g55, g56, g57, g58, g59, g60, g61, g62, g63, g64, g65, g66, g67, g68, g69, g70, g71, g72, g73, g74, g75, g76, g77, g78, g79, g80, g81, g82, g83, g84, g85, g86, g87, g88, g89, g90, g91, g92, g93], []⟩ S (fun v S1 => v = (.agg p.1) ∧ S1 = p.2) := by
  unfold J7 at h
  refine q_seq e41 ?_
  refine q_seq e42 ?_
  refine q_region e43 rfl ?_
  refine q_op (dst := some 49) rfl (fun _ ho => ok_move ho (.tmp rfl)) ?_
  refine q_op (dst := some 50) rfl (fun _ ho => ok_move ho (.tmp rfl)) ?_
  rcases ifc h with ⟨hc31, h⟩ | ⟨hc31, h⟩
  · refine q_op_g (t := 50) (dst := some 51) rfl rfl rfl hc31 (fun _ ho => ok_move ho (.tmp rfl)) ?_
    obtain ⟨p32, hp32, h⟩ := bindo h
    refine q_call_g (t := 50) (dst := some 52) rfl rfl rfl hc31 (.func _) (.cons (.str _) (.cons (.tmp rfl) Evs.nil)) (HInv.static valid_has.at_ valid_has.body (valid_has.snd  hp32)) ?_
    rintro _ _ ⟨rfl, rfl⟩
    try dsimp only [HAct.put, List.set_cons_zero, List.set_cons_succ]
    refine q_op_g (t := 50) (dst := some 53) rfl rfl rfl hc31 (fun _ ho => ok_not ho (.tmp rfl)) ?_
    refine q_op (dst := some 54) rfl (fun _ ho => ok_pick_tt ho (.tmp rfl) hc31 (.tmp rfl)) ?_
    refine hr_region_end ?_
    try dsimp only [HAct.put, List.set_cons_zero, List.set_cons_succ]
    try dsimp only [HAct.put, List.set_cons_zero, List.set_cons_succ]
    exact J8_snd hrec0 h
  · refine q_skip (dst := some 51) (t := 50) rfl rfl rfl (bfalse hc31) ?_
    refine q_skip (dst := some 52) (t := 50) rfl rfl rfl (bfalse hc31) ?_
    try dsimp only [HAct.put, List.set_cons_zero, List.set_cons_succ]
    refine q_skip (dst := some 53) (t := 50) rfl rfl rfl (bfalse hc31) ?_
    refine q_op (dst := some 54) rfl (fun _ ho => ok_pick_ff ho (.tmp rfl) (bfalse hc31) (.bool _)) ?_
    refine hr_region_end ?_
    try dsimp only [HAct.put, List.set_cons_zero, List.set_cons_succ]
    try dsimp only [HAct.put, List.set_cons_zero, List.set_cons_succ]
    exact J8_snd hrec0 h
def J6 (k : Nat) (rec0 : (Option HA) → (Option HA) → Int → HS → Option (((List HV)) × HS)) (y0 : (Option HA)) (y1 : (Option HA)) (y2 : Int) (y3 : Bool) (y4 : Bool) (y5 : Int) (S : HS) : Option (((List HV)) × HS) :=
  (Option.bind (valid_has.f ([0, 7, 10, 13, 32, 44, 58] : List UInt8) y2) fun p23 =>
  (if (!p23) = true then
  (Option.bind (y1) fun p25 =>
  (if 0 ≤ (y2 : Int) ∧ (y2 : Int) < 256 then
  (Option.bind (HS.ldI S .u16 (HA.fld p25 (Int.toNat y2))) fun p27 =>
  (Option.bind (y1) fun p28 =>
  (if 0 ≤ (y2 : Int) ∧ (y2 : Int) < 256 then
  (Option.bind (HS.sets S (HA.fld p28 (Int.toNat y2)) [(.int .u16 (ior .u16 p27 4))]) fun p30 =>
  J7 k rec0 y0 y1 y2 y3 y4 y5 p30) else none))) else none)) else
  J7 k rec0 y0 y1 y2 y3 y4 y5 S))
theorem J6_snd {k : Nat} {rec0 : (Option HA) → (Option HA) → Int → HS → Option (((List HV)) × HS)} (hrec0 : ∀ ⦃y0 : (Option HA)⦄ ⦃y1 : (Option HA)⦄ ⦃y5 : Int⦄ ⦃S : HS⦄ ⦃p : ((List HV)) × HS⦄ ⦃g2 g3 g4 g6 g7 g8 g9 g10 g11 g12 g13 g14 g15 g16 g17 g18 g19 g20 g21 g22 g23 g24 g25 g26 g27 g28 g29 g30 g31 g32 g33 g34 g35 g36 g37 g38 g39 g40 g41 g42 g43 g44 g45 g46 g47 g48 g49 g50 g51 g52 g53 g54 g55 g56 g57 g58 g59 g60 g61 g62 g63 g64 g65 g66 g67 g68 g69 g70 g71 g72 g73 g74 g75 g76 g77 g78 g79 g80 g81 g82 g83 g84 g85 g86 g87 g88 g89 g90 g91 g92 g93 : HV⦄, rec0 y0 y1 y5 S = some p → HRun Try.prog base W0 β0 34 none [.inLoop c9, .inBlock 0, .code c65] ⟨[(.ptr y0), (.ptr y1), g2, g3, g4, (.int .i64 y5), g6, g7, g8, g9, g10, g11, g12, g13, g14, g15, g16, g17, g18, g19, g20, g21, g22, g23, g24, g25, g26, g27, g28, g29, g30, g31, g32, g33, g34, g35, g36, g37, g38, g39, g40, g41, g42, g43, g44, g45, g46, g47, g48, g49, g50, g51, g52, g53, g54, g55, g56, g57, g58, g59, g60, g61, g62, g63, g64, g65, g66, g67, g68, g69, g70, g71, g72, g73, g74, g75, g76, g77, g78, g79, g80, g81, g82, g83, g84, g85, g86, g87, g88, g89, g90, g91, g92, g93], []⟩ S (fun v S1 => v = (.agg p.1) ∧ S1 = p.2)) {y0 : (Option HA)} {y1 : (Option HA)} {y2 : Int} {y3 : Bool} {y4 : Bool} {y5 : Int} {S : HS} {p : ((List HV)) × HS} {g6 g7 g8 g9 g10 g11 g12 g13 g14 g15 g16 g17 g18 g19 g20 g21 g22 g23 g24 g25 g26 g27 g28 g29 g30 g31 g32 g33 g34 g35 g36 g37 g38 g39 g40 g41 g42 g43 g44 g45 g46 g47 g48 g49 g50 g51 g52 g53 g54 g55 g56 g57 g58 g59 g60 g61 g62 g63 g64 g65 g66 g67 g68 g69 g70 g71 g72 g73 g74 g75 g76 g77 g78 g79 g80 g81 g82 g83 g84 g85 g86 g87 g88 g89 g90 g91 g92 g93 : HV} (h : J6 k rec0 y0 y1 y2 y3 y4 y5 S = some p) : HRun Try.prog base W0 β0 34 none [.code c35, .inBlock 1, .code c64, .inLoop c9, .inBlock 0, .code c65] ⟨[(.ptr y0), (.ptr y1), (.int .i64 y2), (.bool y3), (.bool y4), (.int .i64 y5), g6, g7, g8, g9, g10, g11, g12, g13, g14, g15, g16, g17, g18, g19, g20, g21, g22, g23, g24, g25, g26, g27, g28, g29, g30, g31, g32, g33, g34, g35, g36, g37, g38, g39, g40, g41, g42, g43, g44, g45, g46, g47, g48, g49, g50, g51, g52, g53, g54, g55, g56, g57, g58, g59, g60, g61, g62, g63, g64, g65, g66, g67, g68, g69, g70, g71, g72, g73, g74, g75, g76, g77, g78, g79, g80, g81, g82, g83, g84, g85, g86, g87, g88, g89, g90, g91, g92, g93], []⟩ S (fun v S1 => v = (.agg p.1) ∧ S1 = p.2) := by
  unfold J6 at h
  refine q_seq e35 ?_
  refine q_seq e36 ?_
  refine q_region e37 rfl ?_
  refine q_op (dst := some 41) rfl (fun _ ho => ok_move ho (.tmp rfl)) ?_
  obtain ⟨p23, hp23, h⟩ := bindo h
  refine q_call (dst := some 42) rfl (.func _) (.cons (.str _) (.cons (.tmp rfl) Evs.nil)) (HInv.static valid_has.at_ valid_has.body (valid_has.snd  hp23)) ?_
  rintro _ _ ⟨rfl, rfl⟩
  refine q_op (dst := some 43) rfl (fun _ ho => ok_not ho (.tmp rfl)) ?_
  refine hr_region_end ?_
  try dsimp only [HAct.put, List.set_cons_zero, List.set_cons_succ]
  rcases ifc h with ⟨hc24, h⟩ | ⟨hc24, h⟩
  · refine q_cond_t e38 (.tmp rfl) hc24 ?_
    refine q_region e39 rfl ?_
    refine q_op (dst := some 44) rfl (fun _ ho => ok_move ho (.tmp rfl)) ?_
    obtain ⟨p25, hp25, h⟩ := bindo h
    obtain ⟨hg26, h⟩ := gd h
    refine q_op (dst := some 45) rfl (fun _ ho => ok_indexAddr_arr ho ta34 sz30 (.tmp rfl) hp25 (.tmp rfl) hg26) ?_
    obtain ⟨p27, hp27, h⟩ := bindo h
    refine q_op (dst := some 46) rfl (fun _ ho => ok_load_s ho sc30 (.tmp rfl) rfl (ldI_out hp27)) ?_
    refine q_op (dst := some 47) rfl (fun _ ho => ok_ibin ho (.tmp rfl) (.int _ _) rfl) ?_
    try dsimp only [HAct.put, List.set_cons_zero, List.set_cons_succ]
    obtain ⟨p28, hp28, h⟩ := bindo h
    obtain ⟨hg29, h⟩ := gd h
    refine q_op (dst := some 48) rfl (fun _ ho => ok_indexAddr_arr ho ta34 sz30 (.tmp rfl) hp28 (.tmp rfl) hg29) ?_
    obtain ⟨p30, hp30, h⟩ := bindo h
    refine q_op (dst := none) rfl (fun _ ho => ok_store_s (v := (.int .u16 (ior .u16 p27 4))) ho sz30 (.tmp rfl) rfl (.tmp rfl) rfl hp30) ?_
    refine hr_region_end ?_
    try dsimp only [HAct.put, List.set_cons_zero, List.set_cons_succ]
    try dsimp only [HAct.put, List.set_cons_zero, List.set_cons_succ]
    exact J7_snd hrec0 h
  · refine q_cond_f e38 (.tmp rfl) (bfalse hc24) ?_
    refine q_skipc e40 ?_
    try dsimp only [HAct.put, List.set_cons_zero, List.set_cons_succ]
    exact J7_snd hrec0 h
def J5 (k : Nat) (rec0 : (Option HA) → (Option HA) → Int → HS → Option (((List HV)) × HS)) (y0 : (Option HA)) (y1 : (Option HA)) (y2 : Int) (y3 : Bool) (y4 : Bool) (y5 : Int) (y35 : Bool) (S : HS) : Option (((List HV)) × HS) :=
  (if y35 = true then
  (Option.bind (y1) fun p17 =>
  (if 0 ≤ (y2 : Int) ∧ (y2 : Int) < 256 then
  (Option.bind (HS.ldI S .u16 (HA.fld p17 (Int.toNat y2))) fun p19 =>
  (Option.bind (y1) fun p20 =>
  (if 0 ≤ (y2 : Int) ∧ (y2 : Int) < 256 then
  (Option.bind (HS.sets S (HA.fld p20 (Int.toNat y2)) [(.int .u16 (ior .u16 p19 2))]) fun p22 =>
  J6 k rec0 y0 y1 y2 y3 y4 y5 p22) else none))) else none)) else
  J6 k rec0 y0 y1 y2 y3 y4 y5 S)
theorem J5_snd {k : Nat} {rec0 : (Option HA) → (Option HA) → Int → HS → Option (((List HV)) × HS)} (hrec0 : ∀ ⦃y0 : (Option HA)⦄ ⦃y1 : (Option HA)⦄ ⦃y5 : Int⦄ ⦃S : HS⦄ ⦃p : ((List HV)) × HS⦄ ⦃g2 g3 g4 g6 g7 g8 g9 g10 g11 g12 g13 g14 g15 g16 g17 g18 g19 g20 g21 g22 g23 g24 g25 g26 g27 g28 g29 g30 g31 g32 g33 g34 g35 g36 g37 g38 g39 g40 g41 g42 g43 g44 g45 g46 g47 g48 g49 g50 g51 g52 g53 g54 g55 g56 g57 g58 g59 g60 g61 g62 g63 g64 g65 g66 g67 g68 g69 g70 g71 g72 g73 g74 g75 g76 g77 g78 g79 g80 g81 g82 g83 g84 g85 g86 g87 g88 g89 g90 g91 g92 g93 : HV⦄, rec0 y0 y1 y5 S = some p → HRun Try.prog base W0 β0 34 none [.inLoop c9, .inBlock 0, .code c65] ⟨[(.ptr y0), (.ptr y1), g2, g3, g4, (.int .i64 y5), g6, g7, g8, g9, g10, g11, g12, g13, g14, g15, g16, g17, g18, g19, g20, g21, g22, g23, g24, g25, g26, g27, g28, g29, g30, g31, g32, g33, g34, g35, g36, g37, g38, g39, g40, g41, g42, g43, g44, g45, g46, g47, g48, g49, g50, g51, g52, g53, g54, g55, g56, g57, g58, g59, g60, g61, g62, g63, g64, g65, g66, g67, g68, g69, g70, g71, g72, g73, g74, g75, g76, g77, g78, g79, g80, g81, g82, g83, g84, g85, g86, g87, g88, g89, g90, g91, g92, g93], []⟩ S (fun v S1 => v = (.agg p.1) ∧ S1 = p.2)) {y0 : (Option HA)} {y1 : (Option HA)} {y2 : Int} {y3 : Bool} {y4 : Bool} {y5 : Int} {y35 : Bool} {S : HS} {p : ((List HV)) × HS} {g6 g7 g8 g9 g10 g11 g12 g13 g14 g15 g16 g17 g18 g19 g20 g21 g22 g23 g24 g25 g26 g27 g28 g29 g30 g31 g32 g33 g34 g36 g37 g38 g39 g40 g41 g42 g43 g44 g45 g46 g47 g48 g49 g50 g51 g52 g53 g54 g55 g56 g57 g58 g59 g60 g61 g62 g63 g64 g65 g66 g67 g68 g69 g70 g71 g72 g73 g74 g75 g76 g77 g78 g79 g80 g81 g82 g83 g84 g85 g86 g87 g88 g89 g90 g91 g92 g93 : HV} (h : J5 k rec0 y0 y1 y2 y3 y4 y5 y35 S = some p) : HRun Try.prog base W0 β0 34 none [.code c32, .code c35, .inBlock 1, .code c64, .inLoop c9, .inBlock 0, .code c65] ⟨[(.ptr y0), (.ptr y1), (.int .i64 y2), (.bool y3), (.bool y4), (.int .i64 y5), g6, g7, g8, g9, g10, g11, g12, g13, g14, g15, g16, g17, g18, g19, g20, g21, g22, g23, g24, g25, g26, g27, g28, g29, g30, g31, g32, g33, g34, (.bool y35), g36, g37, g38, g39, g40, g41, g42, g43, g44, g45, g46, g47, g48, g49, g50, g51, g52, g53, g54, g55, g56, g57, g58, g59, g60, g61, g62, g63, g64, g65, g66, g67, g68, g69, g70, g71, g72, g73, g74, g75, g76, g77, g78, g79, g80, g81, g82, g83, g84, g85, g86, g87, g88, g89, g90, g91, g92, g93], []⟩ S (fun v S1 => v = (.agg p.1) ∧ S1 = p.2) := by
  unfold J5 at h
  rcases ifc h with ⟨hc16, h⟩ | ⟨hc16, h⟩
  · refine q_cond_t e32 (.tmp rfl) hc16 ?_
    refine q_region e33 rfl ?_
    refine q_op (dst := some 36) rfl (fun _ ho => ok_move ho (.tmp rfl)) ?_
    obtain ⟨p17, hp17, h⟩ := bindo h
    obtain ⟨hg18, h⟩ := gd h
    refine q_op (dst := some 37) rfl (fun _ ho => ok_indexAddr_arr ho ta34 sz30 (.tmp rfl) hp17 (.tmp rfl) hg18) ?_
    obtain ⟨p19, hp19, h⟩ := bindo h
    refine q_op (dst := some 38) rfl (fun _ ho => ok_load_s ho sc30 (.tmp rfl) rfl (ldI_out hp19)) ?_
    refine q_op (dst := some 39) rfl (fun _ ho => ok_ibin ho (.tmp rfl) (.int _ _) rfl) ?_
    try dsimp only [HAct.put, List.set_cons_zero, List.set_cons_succ]
    obtain ⟨p20, hp20, h⟩ := bindo h
    obtain ⟨hg21, h⟩ := gd h
    refine q_op (dst := some 40) rfl (fun _ ho => ok_indexAddr_arr ho ta34 sz30 (.tmp rfl) hp20 (.tmp rfl) hg21) ?_
    obtain ⟨p22, hp22, h⟩ := bindo h
    refine q_op (dst := none) rfl (fun _ ho => ok_store_s (v := (.int .u16 (ior .u16 p19 2))) ho sz30 (.tmp rfl) rfl (.tmp rfl) rfl hp22) ?_
    refine hr_region_end ?_
    try dsimp only [HAct.put, List.set_cons_zero, List.set_cons_succ]
    try dsimp only [HAct.put, List.set_cons_zero, List.set_cons_succ]
    exact J6_snd hrec0 h
  · refine q_cond_f e32 (.tmp rfl) (bfalse hc16) ?_
    refine q_skipc e34 ?_
    try dsimp only [HAct.put, List.set_cons_zero, List.set_cons_succ]
    exact J6_snd hrec0 h
def J4 (k : Nat) (rec0 : (Option HA) → (Option HA) → Int → HS → Option (((List HV)) × HS)) (y0 : (Option HA)) (y1 : (Option HA)) (y2 : Int) (y3 : Bool) (y4 : Bool) (y5 : Int) (S : HS) : Option (((List HV)) × HS) :=
  (if y3 = true then
  J5 k rec0 y0 y1 y2 y3 y4 y5 true S else
  J5 k rec0 y0 y1 y2 y3 y4 y5 (decide (y2 = 45)) S)
theorem J4_snd {k : Nat} {rec0 : (Option HA) → (Option HA) → Int → HS → Option (((List HV)) × HS)} (hrec0 : ∀ ⦃y0 : (Option HA)⦄ ⦃y1 : (Option HA)⦄ ⦃y5 : Int⦄ ⦃S : HS⦄ ⦃p : ((List HV)) × HS⦄ ⦃g2 g3 g4 g6 g7 g8 g9 g10 g11 g12 g13 g14 g15 g16 g17 g18 g19 g20 g21 g22 g23 g24 g25 g26 g27 g28 g29 g30 g31 g32 g33 g34 g35 g36 g37 g38 g39 g40 g41 g42 g43 g44 g45 g46 g47 g48 g49 g50 g51 g52 g53 g54 g55 g56 g57 g58 g59 g60 g61 g62 g63 g64 g65 g66 g67 g68 g69 g70 g71 g72 g73 g74 g75 g76 g77 g78 g79 g80 g81 g82 g83 g84 g85 g86 g87 g88 g89 g90 g91 g92 g93 : HV⦄, rec0 y0 y1 y5 S = some p → HRun Try.prog base W0 β0 34 none [.inLoop c9, .inBlock 0, .code c65] ⟨[(.ptr y0), (.ptr y1), g2, g3, g4, (.int .i64 y5), g6, g7, g8, g9, g10, g11, g12, g13, g14, g15, g16, g17, g18, g19, g20, g21, g22, g23, g24, g25, g26, g27, g28, g29, g30, g31, g32, g33, g34, g35, g36, g37, g38, g39, g40, g41, g42, g43, g44, g45, g46, g47, g48, g49, g50, g51, g52, g53, g54, g55, g56, g57, g58, g59, g60, g61, g62, g63, g64, g65, g66, g67, g68, g69, g70, g71, g72, g73, g74, g75, g76, g77, g78, g79, g80, g81, g82, g83, g84, g85, g86, g87, g88, g89, g90, g91, g92, g93], []⟩ S (fun v S1 => v = (.agg p.1) ∧ S1 = p.2)) {y0 : (Option HA)} {y1 : (Option HA)} {y2 : Int} {y3 : Bool} {y4 : Bool} {y5 : Int} {S : HS} {p : ((List HV)) × HS} {g6 g7 g8 g9 g10 g11 g12 g13 g14 g15 g16 g17 g18 g19 g20 g21 g22 g23 g24 g25 g26 g27 g28 g29 g30 g31 g32 g33 g34 g35 g36 g37 g38 g39 g40 g41 g42 g43 g44 g45 g46 g47 g48 g49 g50 g51 g52 g53 g54 g55 g56 g57 g58 g59 g60 g61 g62 g63 g64 g65 g66 g67 g68 g69 g70 g71 g72 g73 g74 g75 g76 g77 g78 g79 g80 g81 g82 g83 g84 g85 g86 g87 g88 g89 g90 g91 g92 g93 : HV} (h : J4 k rec0 y0 y1 y2 y3 y4 y5 S = some p) : HRun Try.prog base W0 β0 34 none [.code c29, .inBlock 1, .code c64, .inLoop c9, .inBlock 0, .code c65] ⟨[(.ptr y0), (.ptr y1), (.int .i64 y2), (.bool y3), (.bool y4), (.int .i64 y5), g6, g7, g8, g9, g10, g11, g12, g13, g14, g15, g16, g17, g18, g19, g20, g21, g22, g23, g24, g25, g26, g27, g28, g29, g30, g31, g32, g33, g34, g35, g36, g37, g38, g39, g40, g41, g42, g43, g44, g45, g46, g47, g48, g49, g50, g51, g52, g53, g54, g55, g56, g57, g58, g59, g60, g61, g62, g63, g64, g65, g66, g67, g68, g69, g70, g71, g72, g73, g74, g75, g76, g77, g78, g79, g80, g81, g82, g83, g84, g85, g86, g87, g88, g89, g90, g91, g92, g93], []⟩ S (fun v S1 => v = (.agg p.1) ∧ S1 = p.2) := by
  unfold J4 at h
  refine q_seq e29 ?_
  refine q_seq e30 ?_
  refine q_region e31 rfl ?_
  refine q_op (dst := some 31) rfl (fun _ ho => ok_move ho (.tmp rfl)) ?_
  refine q_op (dst := some 32) rfl (fun _ ho => ok_move ho (.tmp rfl)) ?_
  rcases ifc h with ⟨hc15, h⟩ | ⟨hc15, h⟩
  · refine q_skip (dst := some 33) (t := 32) rfl rfl rfl hc15 ?_
    refine q_skip (dst := some 34) (t := 32) rfl rfl rfl hc15 ?_
    try dsimp only [HAct.put, List.set_cons_zero, List.set_cons_succ]
    refine q_op (dst := some 35) rfl (fun _ ho => ok_pick_tt ho (.tmp rfl) hc15 (.bool _)) ?_
    refine hr_region_end ?_
    try dsimp only [HAct.put, List.set_cons_zero, List.set_cons_succ]
    try dsimp only [HAct.put, List.set_cons_zero, List.set_cons_succ]
    exact J5_snd hrec0 h
  · refine q_op_g (t := 32) (dst := some 33) rfl rfl rfl (bfalse hc15) (fun _ ho => ok_move ho (.tmp rfl)) ?_
    refine q_op_g (t := 32) (dst := some 34) rfl rfl rfl (bfalse hc15) (fun _ ho => ok_ibin ho (.tmp rfl) (.int _ _) rfl) ?_
    try dsimp only [HAct.put, List.set_cons_zero, List.set_cons_succ]
    refine q_op (dst := some 35) rfl (fun _ ho => ok_pick_ff ho (.tmp rfl) (bfalse hc15) (.tmp rfl)) ?_
    refine hr_region_end ?_
    try dsimp only [HAct.put, List.set_cons_zero, List.set_cons_succ]
    try dsimp only [HAct.put, List.set_cons_zero, List.set_cons_succ]
    exact J5_snd hrec0 h
def J3 (k : Nat) (rec0 : (Option HA) → (Option HA) → Int → HS → Option (((List HV)) × HS)) (y0 : (Option HA)) (y1 : (Option HA)) (y2 : Int) (y3 : Bool) (y4 : Bool) (y5 : Int) (y25 : Bool) (S : HS) : Option (((List HV)) × HS) :=
  (if y25 = true then
  (Option.bind (y1) fun p9 =>
  (if 0 ≤ (y2 : Int) ∧ (y2 : Int) < 256 then
  (Option.bind (HS.ldI S .u16 (HA.fld p9 (Int.toNat y2))) fun p11 =>
  (Option.bind (y1) fun p12 =>
  (if 0 ≤ (y2 : Int) ∧ (y2 : Int) < 256 then
  (Option.bind (HS.sets S (HA.fld p12 (Int.toNat y2)) [(.int .u16 (ior .u16 p11 3))]) fun p14 =>
  J4 k rec0 y0 y1 y2 y3 y4 y5 p14) else none))) else none)) else
  J4 k rec0 y0 y1 y2 y3 y4 y5 S)
theorem J3_snd {k : Nat} {rec0 : (Option HA) → (Option HA) → Int → HS → Option (((List HV)) × HS)} (hrec0 : ∀ ⦃y0 : (Option HA)⦄ ⦃y1 : (Option HA)⦄ ⦃y5 : Int⦄ ⦃S : HS⦄ ⦃p : ((List HV)) × HS⦄ ⦃g2 g3 g4 g6 g7 g8 g9 g10 g11 g12 g13 g14 g15 g16 g17 g18 g19 g20 g21 g22 g23 g24 g25 g26 g27 g28 g29 g30 g31 g32 g33 g34 g35 g36 g37 g38 g39 g40 g41 g42 g43 g44 g45 g46 g47 g48 g49 g50 g51 g52 g53 g54 g55 g56 g57 g58 g59 g60 g61 g62 g63 g64 g65 g66 g67 g68 g69 g70 g71 g72 g73 g74 g75 g76 g77 g78 g79 g80 g81 g82 g83 g84 g85 g86 g87 g88 g89 g90 g91 g92 g93 : HV⦄, rec0 y0 y1 y5 S = some p → HRun Try.prog base W0 β0 34 none [.inLoop c9, .inBlock 0, .code c65] ⟨[(.ptr y0), (.ptr y1), g2, g3, g4, (.int .i64 y5), g6, g7, g8, g9, g10, g11, g12, g13, g14, g15, g16, g17, g18, g19, g20, g21, g22, g23, g24, g25, g26, g27, g28, g29, g30, g31, g32, g33, g34, g35, g36, g37, g38, g39, g40, g41, g42, g43, g44, g45, g46, g47, g48, g49, g50, g51, g52, g53, g54, g55, g56, g57, g58, g59, g60, g61, g62, g63, g64, g65, g66, g67, g68, g69, g70, g71, g72, g73, g74, g75, g76, g77, g78, g79, g80, g81, g82, g83, g84, g85, g86, g87, g88, g89, g90, g91, g92, g93], []⟩ S (fun v S1 => v = (.agg p.1) ∧ S1 = p.2)) {y0 : (Option HA)} {y1 : (Option HA)} {y2 : Int} {y3 : Bool} {y4 : Bool} {y5 : Int} {y25 : Bool} {S : HS} {p : ((List HV)) × HS} {g6 g7 g8 g9 g10 g11 g12 g13 g14 g15 g16 g17 g18 g19 g20 g21 g22 g23 g24 g26 g27 g28 g29 g30 g31 g32 g33 g34 g35 g36 g37 g38 g39 g40 g41 g42 g43 g44 g45 g46 g47 g48 g49 g50 g51 g52 g53 g54 g55 g56 g57 g58 g59 g60 g61 g62 g63 g64 g65 g66 g67 g68 g69 g70 g71 g72 g73 g74 g75 g76 g77 g78 g79 g80 g81 g82 g83 g84 g85 g86 g87 g88 g89 g90 g91 g92 g93 : HV} (h : J3 k rec0 y0 y1 y2 y3 y4 y5 y25 S = some p) : HRun Try.prog base W0 β0 34 none [.code c26, .code c29, .inBlock 1, .code c64, .inLoop c9, .inBlock 0, .code c65] ⟨[(.ptr y0), (.ptr y1), (.int .i64 y2), (.bool y3), (.bool y4), (.int .i64 y5), g6, g7, g8, g9, g10, g11, g12, g13, g14, g15, g16, g17, g18, g19, g20, g21, g22, g23, g24, (.bool y25), g26, g27, g28, g29, g30, g31, g32, g33, g34, g35, g36, g37, g38, g39, g40, g41, g42, g43, g44, g45, g46, g47, g48, g49, g50, g51, g52, g53, g54, g55, g56, g57, g58, g59, g60, g61, g62, g63, g64, g65, g66, g67, g68, g69, g70, g71, g72, g73, g74, g75, g76, g77, g78, g79, g80, g81, g82, g83, g84, g85, g86, g87, g88, g89, g90, g91, g92, g93], []⟩ S (fun v S1 => v = (.agg p.1) ∧ S1 = p.2) := by
  unfold J3 at h
  rcases ifc h with ⟨hc8, h⟩ | ⟨hc8, h⟩
  · refine q_cond_t e26 (.tmp rfl) hc8 ?_
    refine q_region e27 rfl ?_
    refine q_op (dst := some 26) rfl (fun _ ho => ok_move ho (.tmp rfl)) ?_
    obtain ⟨p9, hp9, h⟩ := bindo h
    obtain ⟨hg10, h⟩ := gd h
    refine q_op (dst := some 27) rfl (fun _ ho => ok_indexAddr_arr ho ta34 sz30 (.tmp rfl) hp9 (.tmp rfl) hg10) ?_
    obtain ⟨p11, hp11, h⟩ := bindo h
    refine q_op (dst := some 28) rfl (fun _ ho => ok_load_s ho sc30 (.tmp rfl) rfl (ldI_out hp11)) ?_
    refine q_op (dst := some 29) rfl (fun _ ho => ok_ibin ho (.tmp rfl) (.int _ _) rfl) ?_
    try dsimp only [HAct.put, List.set_cons_zero, List.set_cons_succ]
    obtain ⟨p12, hp12, h⟩ := bindo h
    obtain ⟨hg13, h⟩ := gd h
    refine q_op (dst := some 30) rfl (fun _ ho => ok_indexAddr_arr ho ta34 sz30 (.tmp rfl) hp12 (.tmp rfl) hg13) ?_
    obtain ⟨p14, hp14, h⟩ := bindo h
    refine q_op (dst := none) rfl (fun _ ho => ok_store_s (v := (.int .u16 (ior .u16 p11 3))) ho sz30 (.tmp rfl) rfl (.tmp rfl) rfl hp14) ?_
    refine hr_region_end ?_
    try dsimp only [HAct.put, List.set_cons_zero, List.set_cons_succ]
    try dsimp only [HAct.put, List.set_cons_zero, List.set_cons_succ]
    exact J4_snd hrec0 h
  · refine q_cond_f e26 (.tmp rfl) (bfalse hc8) ?_
    refine q_skipc e28 ?_
    try dsimp only [HAct.put, List.set_cons_zero, List.set_cons_succ]
    exact J4_snd hrec0 h
def J2 (k : Nat) (rec0 : (Option HA) → (Option HA) → Int → HS → Option (((List HV)) × HS)) (y0 : (Option HA)) (y1 : (Option HA)) (y2 : Int) (y3 : Bool) (y5 : Int) (y19 : Bool) (S : HS) : Option (((List HV)) × HS) :=
  (Option.bind (valid_letter.f y2) fun p6 =>
  (if p6 = true then
  J3 k rec0 y0 y1 y2 y3 y19 y5 true S else
  (Option.bind (valid_has.f ([91, 93, 92, 95, 94, 123, 124, 125, 96] : List UInt8) y2) fun p67 =>
  J3 k rec0 y0 y1 y2 y3 y19 y5 p67 S)))
theorem J2_snd {k : Nat} {rec0 : (Option HA) → (Option HA) → Int → HS → Option (((List HV)) × HS)} (hrec0 : ∀ ⦃y0 : (Option HA)⦄ ⦃y1 : (Option HA)⦄ ⦃y5 : Int⦄ ⦃S : HS⦄ ⦃p : ((List HV)) × HS⦄ ⦃g2 g3 g4 g6 g7 g8 g9 g10 g11 g12 g13 g14 g15 g16 g17 g18 g19 g20 g21 g22 g23 g24 g25 g26 g27 g28 g29 g30 g31 g32 g33 g34 g35 g36 g37 g38 g39 g40 g41 g42 g43 g44 g45 g46 g47 g48 g49 g50 g51 g52 g53 g54 g55 g56 g57 g58 g59 g60 g61 g62 g63 g64 g65 g66 g67 g68 g69 g70 g71 g72 g73 g74 g75 g76 g77 g78 g79 g80 g81 g82 g83 g84 g85 g86 g87 g88 g89 g90 g91 g92 g93 : HV⦄, rec0 y0 y1 y5 S = some p → HRun Try.prog base W0 β0 34 none [.inLoop c9, .inBlock 0, .code c65] ⟨[(.ptr y0), (.ptr y1), g2, g3, g4, (.int .i64 y5), g6, g7, g8, g9, g10, g11, g12, g13, g14, g15, g16, g17, g18, g19, g20, g21, g22, g23, g24, g25, g26, g27, g28, g29, g30, g31, g32, g33, g34, g35, g36, g37, g38, g39, g40, g41, g42, g43, g44, g45, g46, g47, g48, g49, g50, g51, g52, g53, g54, g55, g56, g57, g58, g59, g60, g61, g62, g63, g64, g65, g66, g67, g68, g69, g70, g71, g72, g73, g74, g75, g76, g77, g78, g79, g80, g81, g82, g83, g84, g85, g86, g87, g88, g89, g90, g91, g92, g93], []⟩ S (fun v S1 => v = (.agg p.1) ∧ S1 = p.2)) {y0 : (Option HA)} {y1 : (Option HA)} {y2 : Int} {y3 : Bool} {y5 : Int} {y19 : Bool} {S : HS} {p : ((List HV)) × HS} {g4 g6 g7 g8 g9 g10 g11 g12 g13 g14 g15 g16 g17 g18 g20 g21 g22 g23 g24 g25 g26 g27 g28 g29 g30 g31 g32 g33 g34 g35 g36 g37 g38 g39 g40 g41 g42 g43 g44 g45 g46 g47 g48 g49 g50 g51 g52 g53 g54 g55 g56 g57 g58 g59 g60 g61 g62 g63 g64 g65 g66 g67 g68 g69 g70 g71 g72 g73 g74 g75 g76 g77 g78 g79 g80 g81 g82 g83 g84 g85 g86 g87 g88 g89 g90 g91 g92 g93 : HV} (h : J2 k rec0 y0 y1 y2 y3 y5 y19 S = some p) : HRun Try.prog base W0 β0 34 none [.inRegion r22 [6], .code c23, .inBlock 1, .code c64, .inLoop c9, .inBlock 0, .code c65] ⟨[(.ptr y0), (.ptr y1), (.int .i64 y2), (.bool y3), g4, (.int .i64 y5), g6, g7, g8, g9, g10, g11, g12, g13, g14, g15, g16, g17, g18, (.bool y19), g20, g21, g22, g23, g24, g25, g26, g27, g28, g29, g30, g31, g32, g33, g34, g35, g36, g37, g38, g39, g40, g41, g42, g43, g44, g45, g46, g47, g48, g49, g50, g51, g52, g53, g54, g55, g56, g57, g58, g59, g60, g61, g62, g63, g64, g65, g66, g67, g68, g69, g70, g71, g72, g73, g74, g75, g76, g77, g78, g79, g80, g81, g82, g83, g84, g85, g86, g87, g88, g89, g90, g91, g92, g93], []⟩ S (fun v S1 => v = (.agg p.1) ∧ S1 = p.2) := by
  unfold J2 at h
  refine q_op (dst := some 4) rfl (fun _ ho => ok_assign ho (.tmp rfl)) ?_
  refine hr_region_end ?_
  try dsimp only [HAct.put, List.set_cons_zero, List.set_cons_succ]
  refine q_seq e23 ?_
  refine q_seq e24 ?_
  refine q_region e25 rfl ?_
  refine q_op (dst := some 20) rfl (fun _ ho => ok_move ho (.tmp rfl)) ?_
  obtain ⟨p6, hp6, h⟩ := bindo h
  refine q_call (dst := some 21) rfl (.func _) (.cons (.tmp rfl) Evs.nil) (HInv.static valid_letter.at_ valid_letter.body (valid_letter.snd  hp6)) ?_
  rintro _ _ ⟨rfl, rfl⟩
  refine q_op (dst := some 22) rfl (fun _ ho => ok_move ho (.tmp rfl)) ?_
  rcases ifc h with ⟨hc7, h⟩ | ⟨hc7, h⟩
  · refine q_skip (dst := some 23) (t := 22) rfl rfl rfl hc7 ?_
    try dsimp only [HAct.put, List.set_cons_zero, List.set_cons_succ]
    refine q_skip (dst := some 24) (t := 22) rfl rfl rfl hc7 ?_
    refine q_op (dst := some 25) rfl (fun _ ho => ok_pick_tt ho (.tmp rfl) hc7 (.bool _)) ?_
    refine hr_region_end ?_
    try dsimp only [HAct.put, List.set_cons_zero, List.set_cons_succ]
    try dsimp only [HAct.put, List.set_cons_zero, List.set_cons_succ]
    exact J3_snd hrec0 h
  · refine q_op_g (t := 22) (dst := some 23) rfl rfl rfl (bfalse hc7) (fun _ ho => ok_move ho (.tmp rfl)) ?_
    try dsimp only [HAct.put, List.set_cons_zero, List.set_cons_succ]
    obtain ⟨p67, hp67, h⟩ := bindo h
    refine q_call_g (t := 22) (dst := some 24) rfl rfl rfl (bfalse hc7) (.func _) (.cons (.str _) (.cons (.tmp rfl) Evs.nil)) (HInv.static valid_has.at_ valid_has.body (valid_has.snd  hp67)) ?_
    rintro _ _ ⟨rfl, rfl⟩
    refine q_op (dst := some 25) rfl (fun _ ho => ok_pick_ff ho (.tmp rfl) (bfalse hc7) (.tmp rfl)) ?_
    refine hr_region_end ?_
    try dsimp only [HAct.put, List.set_cons_zero, List.set_cons_succ]
    try dsimp only [HAct.put, List.set_cons_zero, List.set_cons_succ]
    exact J3_snd hrec0 h
def J1 (k : Nat) (rec0 : (Option HA) → (Option HA) → Int → HS → Option (((List HV)) × HS)) (y0 : (Option HA)) (y1 : (Option HA)) (y2 : Int) (y5 : Int) (y13 : Bool) (S : HS) : Option (((List HV)) × HS) :=
  (if y2 ≥ 33 then
  J2 k rec0 y0 y1 y2 y13 y5 (decide (y2 ≤ 126)) S else
  J2 k rec0 y0 y1 y2 y13 y5 false S)
theorem J1_snd {k : Nat} {rec0 : (Option HA) → (Option HA) → Int → HS → Option (((List HV)) × HS)} (hrec0 : ∀ ⦃y0 : (Option HA)⦄ ⦃y1 : (Option HA)⦄ ⦃y5 : Int⦄ ⦃S : HS⦄ ⦃p : ((List HV)) × HS⦄ ⦃g2 g3 g4 g6 g7 g8 g9 g10 g11 g12 g13 g14 g15 g16 g17 g18 g19 g20 g21 g22 g23 g24 g25 g26 g27 g28 g29 g30 g31 g32 g33 g34 g35 g36 g37 g38 g39 g40 g41 g42 g43 g44 g45 g46 g47 g48 g49 g50 g51 g52 g53 g54 g55 g56 g57 g58 g59 g60 g61 g62 g63 g64 g65 g66 g67 g68 g69 g70 g71 g72 g73 g74 g75 g76 g77 g78 g79 g80 g81 g82 g83 g84 g85 g86 g87 g88 g89 g90 g91 g92 g93 : HV⦄, rec0 y0 y1 y5 S = some p → HRun Try.prog base W0 β0 34 none [.inLoop c9, .inBlock 0, .code c65] ⟨[(.ptr y0), (.ptr y1), g2, g3, g4, (.int .i64 y5), g6, g7, g8, g9, g10, g11, g12, g13, g14, g15, g16, g17, g18, g19, g20, g21, g22, g23, g24, g25, g26, g27, g28, g29, g30, g31, g32, g33, g34, g35, g36, g37, g38, g39, g40, g41, g42, g43, g44, g45, g46, g47, g48, g49, g50, g51, g52, g53, g54, g55, g56, g57, g58, g59, g60, g61, g62, g63, g64, g65, g66, g67, g68, g69, g70, g71, g72, g73, g74, g75, g76, g77, g78, g79, g80, g81, g82, g83, g84, g85, g86, g87, g88, g89, g90, g91, g92, g93], []⟩ S (fun v S1 => v = (.agg p.1) ∧ S1 = p.2)) {y0 : (Option HA)} {y1 : (Option HA)} {y2 : Int} {y5 : Int} {y13 : Bool} {S : HS} {p : ((List HV)) × HS} {g3 g4 g6 g7 g8 g9 g10 g11 g12 g14 g15 g16 g17 g18 g19 g20 g21 g22 g23 g24 g25 g26 g27 g28 g29 g30 g31 g32 g33 g34 g35 g36 g37 g38 g39 g40 g41 g42 g43 g44 g45 g46 g47 g48 g49 g50 g51 g52 g53 g54 g55 g56 g57 g58 g59 g60 g61 g62 g63 g64 g65 g66 g67 g68 g69 g70 g71 g72 g73 g74 g75 g76 g77 g78 g79 g80 g81 g82 g83 g84 g85 g86 g87 g88 g89 g90 g91 g92 g93 : HV} (h : J1 k rec0 y0 y1 y2 y5 y13 S = some p) : HRun Try.prog base W0 β0 34 none [.inRegion r20 [6], .code c21, .inBlock 1, .code c64, .inLoop c9, .inBlock 0, .code c65] ⟨[(.ptr y0), (.ptr y1), (.int .i64 y2), g3, g4, (.int .i64 y5), g6, g7, g8, g9, g10, g11, g12, (.bool y13), g14, g15, g16, g17, g18, g19, g20, g21, g22, g23, g24, g25, g26, g27, g28, g29, g30, g31, g32, g33, g34, g35, g36, g37, g38, g39, g40, g41, g42, g43, g44, g45, g46, g47, g48, g49, g50, g51, g52, g53, g54, g55, g56, g57, g58, g59, g60, g61, g62, g63, g64, g65, g66, g67, g68, g69, g70, g71, g72, g73, g74, g75, g76, g77, g78, g79, g80, g81, g82, g83, g84, g85, g86, g87, g88, g89, g90, g91, g92, g93], []⟩ S (fun v S1 => v = (.agg p.1) ∧ S1 = p.2) := by
  unfold J1 at h
  refine q_op (dst := some 3) rfl (fun _ ho => ok_assign ho (.tmp rfl)) ?_
  refine hr_region_end ?_
  try dsimp only [HAct.put, List.set_cons_zero, List.set_cons_succ]
  refine q_seq e21 ?_
  refine q_region e22 rfl ?_
  refine q_op (dst := some 14) rfl (fun _ ho => ok_move ho (.tmp rfl)) ?_
  refine q_op (dst := some 15) rfl (fun _ ho => ok_ibin ho (.tmp rfl) (.int _ _) rfl) ?_
  refine q_op (dst := some 16) rfl (fun _ ho => ok_move ho (.tmp rfl)) ?_
  rcases ifc h with ⟨hc5, h⟩ | ⟨hc5, h⟩
  · refine q_op_g (t := 16) (dst := some 17) rfl rfl rfl (decide_eq_true hc5) (fun _ ho => ok_move ho (.tmp rfl)) ?_
    try dsimp only [HAct.put, List.set_cons_zero, List.set_cons_succ]
    refine q_op_g (t := 16) (dst := some 18) rfl rfl rfl (decide_eq_true hc5) (fun _ ho => ok_ibin ho (.tmp rfl) (.int _ _) rfl) ?_
    refine q_op (dst := some 19) rfl (fun _ ho => ok_pick_tt ho (.tmp rfl) (decide_eq_true hc5) (.tmp rfl)) ?_
    try dsimp only [HAct.put, List.set_cons_zero, List.set_cons_succ]
    exact J2_snd hrec0 h
  · refine q_skip (dst := some 17) (t := 16) rfl rfl rfl (decide_eq_false hc5) ?_
    try dsimp only [HAct.put, List.set_cons_zero, List.set_cons_succ]
    refine q_skip (dst := some 18) (t := 16) rfl rfl rfl (decide_eq_false hc5) ?_
    refine q_op (dst := some 19) rfl (fun _ ho => ok_pick_ff ho (.tmp rfl) (decide_eq_false hc5) (.bool _)) ?_
    try dsimp only [HAct.put, List.set_cons_zero, List.set_cons_succ]
    exact J2_snd hrec0 h
def L0 (k : Nat) : Nat → (Option HA) → (Option HA) → Int → HS → Option (((List HV)) × HS)
  | 0, _, _, _, _ => none
  | n + 1, y0, y1, y5, S =>
    (if y5 < 256 then
    (if y5 ≥ 48 then
    J1 k (L0 k n) y0 y1 y5 y5 (decide (y5 ≤ 57)) S else
    J1 k (L0 k n) y0 y1 y5 y5 false S) else
    (Option.bind (y1) fun p68 =>
    (Option.bind (HS.gets S p68 256) fun p69 =>
    (Option.bind (y0) fun p70 =>
    (if List.length p69 = 256 ∧ List.all p69 HV.flat = true then
    (Option.bind (HS.sets S p70 p69) fun p72 =>
    (Option.bind (y0) fun p73 =>
    (Option.bind (HS.gets p72 p73 256) fun p74 =>
    some (p74, p72)))) else none)))))
theorem L0_snd {k : Nat}  : ∀ {n : Nat} ⦃y0 : (Option HA)⦄ ⦃y1 : (Option HA)⦄ ⦃y5 : Int⦄ ⦃S : HS⦄ ⦃p : ((List HV)) × HS⦄ ⦃g2 g3 g4 g6 g7 g8 g9 g10 g11 g12 g13 g14 g15 g16 g17 g18 g19 g20 g21 g22 g23 g24 g25 g26 g27 g28 g29 g30 g31 g32 g33 g34 g35 g36 g37 g38 g39 g40 g41 g42 g43 g44 g45 g46 g47 g48 g49 g50 g51 g52 g53 g54 g55 g56 g57 g58 g59 g60 g61 g62 g63 g64 g65 g66 g67 g68 g69 g70 g71 g72 g73 g74 g75 g76 g77 g78 g79 g80 g81 g82 g83 g84 g85 g86 g87 g88 g89 g90 g91 g92 g93 : HV⦄, L0 k n y0 y1 y5 S = some p → HRun Try.prog base W0 β0 34 none [.inLoop c9, .inBlock 0, .code c65] ⟨[(.ptr y0), (.ptr y1), g2, g3, g4, (.int .i64 y5), g6, g7, g8, g9, g10, g11, g12, g13, g14, g15, g16, g17, g18, g19, g20, g21, g22, g23, g24, g25, g26, g27, g28, g29, g30, g31, g32, g33, g34, g35, g36, g37, g38, g39, g40, g41, g42, g43, g44, g45, g46, g47, g48, g49, g50, g51, g52, g53, g54, g55, g56, g57, g58, g59, g60, g61, g62, g63, g64, g65, g66, g67, g68, g69, g70, g71, g72, g73, g74, g75, g76, g77, g78, g79, g80, g81, g82, g83, g84, g85, g86, g87, g88, g89, g90, g91, g92, g93], []⟩ S (fun v S1 => v = (.agg p.1) ∧ S1 = p.2) := by
  intro n
  induction n with
  | zero => intro _ _ _ _ _ _ _ _ _ _ _ _ _ _ _ _ _ _ _ _ _ _ _ _ _ _ _ _ _ _ _ _ _ _ _ _ _ _ _ _ _ _ _ _ _ _ _ _ _ _ _ _ _ _ _ _ _ _ _ _ _ _ _ _ _ _ _ _ _ _ _ _ _ _ _ _ _ _ _ _ _ _ _ _ _ _ _ _ _ _ _ _ _ _ _ _ h; cases h
  | succ n ih =>
    intro y0 y1 y5 S p g2 g3 g4 g6 g7 g8 g9 g10 g11 g12 g13 g14 g15 g16 g17 g18 g19 g20 g21 g22 g23 g24 g25 g26 g27 g28 g29 g30 g31 g32 g33 g34 g35 g36 g37 g38 g39 g40 g41 g42 g43 g44 g45 g46 g47 g48 g49 g50 g51 g52 g53 g54 g55 g56 g57 g58 g59 g60 g61 g62 g63 g64 g65 g66 g67 g68 g69 g70 g71 g72 g73 g74 g75 g76 g77 g78 g79 g80 g81 g82 g83 g84 g85 g86 g87 g88 g89 g90 g91 g92 g93 h
    simp only [L0] at h
    refine hr_inLoop ?_
    refine q_seq e9 ?_
    refine q_region e10 rfl ?_
    refine q_op (dst := some 6) rfl (fun _ ho => ok_ibin ho (.tmp rfl) (.int _ _) rfl) ?_
    refine hr_region_end ?_
    try dsimp only [HAct.put, List.set_cons_zero, List.set_cons_succ]
    refine q_seq e11 ?_
    rcases ifc h with ⟨hc3, h⟩ | ⟨hc3, h⟩
    · refine q_cond_t e12 (.tmp rfl) (decide_eq_true hc3) ?_
      refine q_skipc e13 ?_
      refine q_seq e15 ?_
      refine q_block e16 ?_
      refine q_seq e17 ?_
      refine q_region e18 rfl ?_
      refine q_op (dst := some 7) rfl (fun _ ho => ok_move ho (.tmp rfl)) ?_
      refine q_op (dst := some 2) rfl (fun _ ho => ok_assign ho (.tmp rfl)) ?_
      refine hr_region_end ?_
      try dsimp only [HAct.put, List.set_cons_zero, List.set_cons_succ]
      refine q_seq e19 ?_
      refine q_region e20 rfl ?_
      refine q_op (dst := some 8) rfl (fun _ ho => ok_move ho (.tmp rfl)) ?_
      refine q_op (dst := some 9) rfl (fun _ ho => ok_ibin ho (.tmp rfl) (.int _ _) rfl) ?_
      refine q_op (dst := some 10) rfl (fun _ ho => ok_move ho (.tmp rfl)) ?_
      rcases ifc h with ⟨hc4, h⟩ | ⟨hc4, h⟩
      · refine q_op_g (t := 10) (dst := some 11) rfl rfl rfl (decide_eq_true hc4) (fun _ ho => ok_move ho (.tmp rfl)) ?_
        try dsimp only [HAct.put, List.set_cons_zero, List.set_cons_succ]
        refine q_op_g (t := 10) (dst := some 12) rfl rfl rfl (decide_eq_true hc4) (fun _ ho => ok_ibin ho (.tmp rfl) (.int _ _) rfl) ?_
        refine q_op (dst := some 13) rfl (fun _ ho => ok_pick_tt ho (.tmp rfl) (decide_eq_true hc4) (.tmp rfl)) ?_
        try dsimp only [HAct.put, List.set_cons_zero, List.set_cons_succ]
        exact J1_snd ih h
      · refine q_skip (dst := some 11) (t := 10) rfl rfl rfl (decide_eq_false hc4) ?_
        try dsimp only [HAct.put, List.set_cons_zero, List.set_cons_succ]
        refine q_skip (dst := some 12) (t := 10) rfl rfl rfl (decide_eq_false hc4) ?_
        refine q_op (dst := some 13) rfl (fun _ ho => ok_pick_ff ho (.tmp rfl) (decide_eq_false hc4) (.bool _)) ?_
        try dsimp only [HAct.put, List.set_cons_zero, List.set_cons_succ]
        exact J1_snd ih h
    · refine q_cond_f e12 (.tmp rfl) (decide_eq_false hc3) ?_
      refine q_exit e14 rfl ?_
      refine q_seq e65 ?_
      refine q_region e66 rfl ?_
      obtain ⟨p68, hp68, h⟩ := bindo h
      obtain ⟨p69, hp69, h⟩ := bindo h
      refine q_op (dst := some 93) rfl (fun _ ho => ok_load_arr ho ia34 (.tmp rfl) hp68 hp69) ?_
      obtain ⟨p70, hp70, h⟩ := bindo h
      obtain ⟨hg71, h⟩ := gd h
      obtain ⟨p72, hp72, h⟩ := bindo h
      refine q_op (dst := none) rfl (fun _ ho => ok_store_arr ho sz34 (.tmp rfl) hp70 (.tmp rfl) hg71 hp72) ?_
      refine hr_region_end ?_
      try dsimp only [HAct.put, List.set_cons_zero, List.set_cons_succ]
      obtain ⟨p73, hp73, h⟩ := bindo h
      obtain ⟨p74, hp74, h⟩ := bindo h
      cases h
      exact q_ret e67 at_.at_ rfl (resL1 rfl (ResAt.arr rfl hp73 ia34 (by decide) hp74)) ⟨rfl, rfl⟩
def f (k : Nat) (S : HS) : Option (((List HV)) × HS) :=
  (letv (HS.new S (.cells 256 [List.replicate 256 (.int .u16 0)] true)) fun p1 =>
  (letv (HS.new p1 (.cells 256 [List.replicate 256 (.int .u16 0)] true)) fun p2 =>
  L0 k k (some (HA.cell0 S.next)) (some (HA.cell0 p1.next)) 0 p2))
theorem snd {k : Nat} {S : HS}  {p : ((List HV)) × HS} (h : f k S = some p) : HCall Try.prog base W0 β0 34 [] S (fun v S1 => v = (.agg p.1) ∧ S1 = p.2) := by
  unfold f at h
  refine HCall.of_run at_.at_ body ?_
  show HRun Try.prog base W0 β0 34 none [.code c0] ⟨[.tup [], .tup [], .tup [], .tup [], .tup [], .tup [], .tup [], .tup [], .tup [], .tup [], .tup [], .tup [], .tup [], .tup [], .tup [], .tup [], .tup [], .tup [], .tup [], .tup [], .tup [], .tup [], .tup [], .tup [], .tup [], .tup [], .tup [], .tup [], .tup [], .tup [], .tup [], .tup [], .tup [], .tup [], .tup [], .tup [], .tup [], .tup [], .tup [], .tup [], .tup [], .tup [], .tup [], .tup [], .tup [], .tup [], .tup [], .tup [], .tup [], .tup [], .tup [], .tup [], .tup [], .tup [], .tup [], .tup [], .tup [], .tup [], .tup [], .tup [], .tup [], .tup [], .tup [], .tup [], .tup [], .tup [], .tup [], .tup [], .tup [], .tup [], .tup [], .tup [], .tup [], .tup [], .tup [], .tup [], .tup [], .tup [], .tup [], .tup [], .tup [], .tup [], .tup [], .tup [], .tup [], .tup [], .tup [], .tup [], .tup [], .tup [], .tup [], .tup [], .tup [], .tup []], []⟩ S _
  refine q_seq e0 ?_
  refine q_region e1 rfl ?_
  obtain ⟨p1, hp1, h⟩ := leto h
  refine q_op (dst := some 0) rfl (fun _ ho => ok_alloc_arr ho za34 (fun β => .int _ _) (by decide) rfl hp1) ?_
  refine hr_region_end ?_
  try dsimp only [HAct.put, List.set_cons_zero, List.set_cons_succ]
  refine q_seq e2 ?_
  refine q_region e3 rfl ?_
  obtain ⟨p2, hp2, h⟩ := leto h
  refine q_op (dst := some 1) rfl (fun _ ho => ok_alloc_arr ho za34 (fun β => .int _ _) (by decide) rfl hp2) ?_
  refine hr_region_end ?_
  try dsimp only [HAct.put, List.set_cons_zero, List.set_cons_succ]
  refine q_seq e4 ?_
  refine q_seq e5 ?_
  refine q_region e6 rfl ?_
  refine q_op (dst := some 5) rfl (fun _ ho => ok_move ho (.int _ _)) ?_
  refine hr_region_end ?_
  try dsimp only [HAct.put, List.set_cons_zero, List.set_cons_succ]
  refine q_block e7 ?_
  refine q_loop e8 ?_
  try dsimp only [HAct.put, List.set_cons_zero, List.set_cons_succ]
  exact L0_snd  h
end
end valid_kinds
namespace valid_all
abbrev id : Nat := 27
theorem at_ : FnAt Try.prog 27 Try.f27 := ⟨Try.func27, by kernel_rfl⟩
noncomputable def c0 : Code := (Try.f27.body).getD .skip
noncomputable def c1 : Code := match c0 with | .seq x _ => x | _ => .skip
noncomputable def c2 : Code := match c0 with | .seq _ x => x | _ => .skip
noncomputable def c3 : Code := match c2 with | .seq x _ => x | _ => .skip
noncomputable def c4 : Code := match c3 with | .seq x _ => x | _ => .skip
noncomputable def c5 : Code := match c3 with | .seq _ x => x | _ => .skip
noncomputable def c6 : Code := match c5 with | .cond _ x _ => x | _ => .skip
noncomputable def c7 : Code := match c6 with | .seq x _ => x | _ => .skip
noncomputable def c8 : Code := match c6 with | .seq _ x => x | _ => .skip
noncomputable def c9 : Code := match c5 with | .cond _ _ x => x | _ => .skip
noncomputable def c10 : Code := match c2 with | .seq _ x => x | _ => .skip
noncomputable def c11 : Code := match c10 with | .seq x _ => x | _ => .skip
noncomputable def c12 : Code := match c10 with | .seq _ x => x | _ => .skip
noncomputable def c13 : Code := match c12 with | .seq x _ => x | _ => .skip
noncomputable def c14 : Code := match c13 with | .seq x _ => x | _ => .skip
noncomputable def c15 : Code := match c13 with | .seq _ x => x | _ => .skip
noncomputable def c16 : Code := match c15 with | .block _ x => x | _ => .skip
noncomputable def c17 : Code := match c16 with | .loop x => x | _ => .skip
noncomputable def c18 : Code := match c17 with | .seq x _ => x | _ => .skip
noncomputable def c19 : Code := match c17 with | .seq _ x => x | _ => .skip
noncomputable def c20 : Code := match c19 with | .seq x _ => x | _ => .skip
noncomputable def c21 : Code := match c20 with | .cond _ x _ => x | _ => .skip
noncomputable def c22 : Code := match c20 with | .cond _ _ x => x | _ => .skip
noncomputable def c23 : Code := match c19 with | .seq _ x => x | _ => .skip
noncomputable def c24 : Code := match c23 with | .seq x _ => x | _ => .skip
noncomputable def c25 : Code := match c24 with | .block _ x => x | _ => .skip
noncomputable def c26 : Code := match c25 with | .seq x _ => x | _ => .skip
noncomputable def c27 : Code := match c25 with | .seq _ x => x | _ => .skip
noncomputable def c28 : Code := match c27 with | .seq x _ => x | _ => .skip
noncomputable def c29 : Code := match c27 with | .seq _ x => x | _ => .skip
noncomputable def c30 : Code := match c29 with | .cond _ x _ => x | _ => .skip
noncomputable def c31 : Code := match c30 with | .seq x _ => x | _ => .skip
noncomputable def c32 : Code := match c30 with | .seq _ x => x | _ => .skip
noncomputable def c33 : Code := match c29 with | .cond _ _ x => x | _ => .skip
noncomputable def c34 : Code := match c23 with | .seq _ x => x | _ => .skip
noncomputable def c35 : Code := match c12 with | .seq _ x => x | _ => .skip
noncomputable def c36 : Code := match c35 with | .seq x _ => x | _ => .skip
noncomputable def c37 : Code := match c35 with | .seq _ x => x | _ => .skip
theorem e0 : c0 = .seq c1 c2 := by kernel_rfl
noncomputable def r1 : Array Oper := match c1 with | .region _ x _ => x | _ => #[]
theorem e1 : c1 = .region 0 r1 false := by kernel_rfl
theorem e2 : c2 = .seq c3 c10 := by kernel_rfl
theorem e3 : c3 = .seq c4 c5 := by kernel_rfl
noncomputable def r4 : Array Oper := match c4 with | .region _ x _ => x | _ => #[]
theorem e4 : c4 = .region 1 r4 false := by kernel_rfl
theorem e5 : c5 = .cond (.tmp 20) c6 c9 := by kernel_rfl
theorem e6 : c6 = .seq c7 c8 := by kernel_rfl
noncomputable def r7 : Array Oper := match c7 with | .region _ x _ => x | _ => #[]
theorem e7 : c7 = .region 2 r7 false := by kernel_rfl
theorem e8 : c8 = .ret := by kernel_rfl
theorem e9 : c9 = .skip := by kernel_rfl
theorem e10 : c10 = .seq c11 c12 := by kernel_rfl
noncomputable def r11 : Array Oper := match c11 with | .region _ x _ => x | _ => #[]
theorem e11 : c11 = .region 3 r11 false := by kernel_rfl
theorem e12 : c12 = .seq c13 c35 := by kernel_rfl
theorem e13 : c13 = .seq c14 c15 := by kernel_rfl
noncomputable def r14 : Array Oper := match c14 with | .region _ x _ => x | _ => #[]
theorem e14 : c14 = .region 4 r14 false := by kernel_rfl
theorem e15 : c15 = .block 0 c16 := by kernel_rfl
theorem e16 : c16 = .loop c17 := by kernel_rfl
theorem e17 : c17 = .seq c18 c19 := by kernel_rfl
noncomputable def r18 : Array Oper := match c18 with | .region _ x _ => x | _ => #[]
theorem e18 : c18 = .region 5 r18 false := by kernel_rfl
theorem e19 : c19 = .seq c20 c23 := by kernel_rfl
theorem e20 : c20 = .cond (.tmp 25) c21 c22 := by kernel_rfl
theorem e21 : c21 = .skip := by kernel_rfl
theorem e22 : c22 = .exit 0 := by kernel_rfl
theorem e23 : c23 = .seq c24 c34 := by kernel_rfl
theorem e24 : c24 = .block 1 c25 := by kernel_rfl
theorem e25 : c25 = .seq c26 c27 := by kernel_rfl
noncomputable def r26 : Array Oper := match c26 with | .region _ x _ => x | _ => #[]
theorem e26 : c26 = .region 6 r26 false := by kernel_rfl
theorem e27 : c27 = .seq c28 c29 := by kernel_rfl
noncomputable def r28 : Array Oper := match c28 with | .region _ x _ => x | _ => #[]
theorem e28 : c28 = .region 7 r28 false := by kernel_rfl
theorem e29 : c29 = .cond (.tmp 34) c30 c33 := by kernel_rfl
theorem e30 : c30 = .seq c31 c32 := by kernel_rfl
noncomputable def r31 : Array Oper := match c31 with | .region _ x _ => x | _ => #[]
theorem e31 : c31 = .region 8 r31 false := by kernel_rfl
theorem e32 : c32 = .ret := by kernel_rfl
theorem e33 : c33 = .skip := by kernel_rfl
noncomputable def r34 : Array Oper := match c34 with | .region _ x _ => x | _ => #[]
theorem e34 : c34 = .region 9 r34 false := by kernel_rfl
theorem e35 : c35 = .seq c36 c37 := by kernel_rfl
noncomputable def r36 : Array Oper := match c36 with | .region _ x _ => x | _ => #[]
theorem e36 : c36 = .region 10 r36 false := by kernel_rfl
theorem e37 : c37 = .ret := by kernel_rfl
theorem body : Try.f27.body = some c0 := by kernel_rfl
section
variable {base : Nat} {W0 : World} {β0 : Bt}
def L1 (k : Nat) : Nat → (List UInt8) → Int → (Option HA) → Int → Int → HS → Option ((Bool) × HS)
  | 0, _, _, _, _, _, _ => none
  | n + 1, y0, y3, y9, y23, y24, S =>
    (if y24 < y23 then
    (Option.bind (sat y0 y24) fun p8 =>
    (Option.bind (y9) fun p9 =>
    (if 0 ≤ ((UInt8.toNat p8 : Int) : Int) ∧ ((UInt8.toNat p8 : Int) : Int) < 256 then
    (Option.bind (HS.ldI S .u16 (HA.fld p9 (Int.toNat (UInt8.toNat p8 : Int)))) fun p11 =>
    (if (iand .u16 p11 y3) = 0 then
    some (false, S) else
    (L1 k n) y0 y3 y9 y23 (w64 (y24 + 1)) S)) else none))) else
    some (true, S))
theorem L1_snd {k : Nat}  : ∀ {n : Nat} ⦃y0 : (List UInt8)⦄ ⦃y3 : Int⦄ ⦃y9 : (Option HA)⦄ ⦃y23 : Int⦄ ⦃y24 : Int⦄ ⦃S : HS⦄ ⦃p : (Bool) × HS⦄ ⦃g1 g2 g4 g5 g6 g7 g8 g10 g11 g12 g13 g14 g15 g16 g17 g18 g19 g20 g21 g22 g25 g26 g27 g28 g29 g30 g31 g32 g33 g34 g35 : HV⦄, L1 k n y0 y3 y9 y23 y24 S = some p → HRun Try.prog base W0 β0 27 none [.inLoop c17, .inBlock 0, .code c35] ⟨[(.str y0), g1, g2, (.int .u16 y3), g4, g5, g6, g7, g8, (.ptr y9), g10, g11, g12, g13, g14, g15, g16, g17, g18, g19, g20, g21, g22, (.int .i64 y23), (.int .i64 y24), g25, g26, g27, g28, g29, g30, g31, g32, g33, g34, g35], []⟩ S (fun v S1 => v = (.bool p.1) ∧ S1 = p.2) := by
  intro n
  induction n with
  | zero => intro _ _ _ _ _ _ _ _ _ _ _ _ _ _ _ _ _ _ _ _ _ _ _ _ _ _ _ _ _ _ _ _ _ _ _ _ _ _ h; cases h
  | succ n ih =>
    intro y0 y3 y9 y23 y24 S p g1 g2 g4 g5 g6 g7 g8 g10 g11 g12 g13 g14 g15 g16 g17 g18 g19 g20 g21 g22 g25 g26 g27 g28 g29 g30 g31 g32 g33 g34 g35 h
    simp only [L1] at h
    refine hr_inLoop ?_
    refine q_seq e17 ?_
    refine q_region e18 rfl ?_
    refine q_op (dst := some 25) rfl (fun _ ho => ok_ibin ho (.tmp rfl) (.tmp rfl) rfl) ?_
    refine hr_region_end ?_
    try dsimp only [HAct.put, List.set_cons_zero, List.set_cons_succ]
    refine q_seq e19 ?_
    rcases ifc h with ⟨hc7, h⟩ | ⟨hc7, h⟩
    · refine q_cond_t e20 (.tmp rfl) (decide_eq_true hc7) ?_
      refine q_skipc e21 ?_
      refine q_seq e23 ?_
      refine q_block e24 ?_
      refine q_seq e25 ?_
      refine q_region e26 rfl ?_
      refine q_op (dst := some 26) rfl (fun _ ho => ok_move ho (.tmp rfl)) ?_
      refine q_op (dst := some 10) rfl (fun _ ho => ok_assign ho (.tmp rfl)) ?_
      refine hr_region_end ?_
      try dsimp only [HAct.put, List.set_cons_zero, List.set_cons_succ]
      refine q_seq e27 ?_
      refine q_region e28 rfl ?_
      refine q_op (dst := some 27) rfl (fun _ ho => ok_move ho (.tmp rfl)) ?_
      refine q_op (dst := some 28) rfl (fun _ ho => ok_move ho (.tmp rfl)) ?_
      obtain ⟨p8, hp8, h⟩ := bindo h
      refine q_op (dst := some 29) rfl (fun _ ho => ok_index_s ho tu9 (.tmp rfl) (.tmp rfl) hp8) ?_
      obtain ⟨p9, hp9, h⟩ := bindo h
      obtain ⟨hg10, h⟩ := gd h
      refine q_op (dst := some 30) rfl (fun _ ho => ok_indexAddr_arr ho ta34 sz30 (.tmp rfl) hp9 (.tmp rfl) hg10) ?_
      try dsimp only [HAct.put, List.set_cons_zero, List.set_cons_succ]
      obtain ⟨p11, hp11, h⟩ := bindo h
      refine q_op (dst := some 31) rfl (fun _ ho => ok_load_s ho sc30 (.tmp rfl) rfl (ldI_out hp11)) ?_
      refine q_op (dst := some 32) rfl (fun _ ho => ok_move ho (.tmp rfl)) ?_
      refine q_op (dst := some 33) rfl (fun _ ho => ok_ibin ho (.tmp rfl) (.tmp rfl) rfl) ?_
      refine q_op (dst := some 34) rfl (fun _ ho => ok_ibin ho (.tmp rfl) (.int _ _) rfl) ?_
      refine hr_region_end ?_
      try dsimp only [HAct.put, List.set_cons_zero, List.set_cons_succ]
      rcases ifc h with ⟨hc12, h⟩ | ⟨hc12, h⟩
      · refine q_cond_t e29 (.tmp rfl) (decide_eq_true hc12) ?_
        refine q_seq e30 ?_
        refine q_region e31 rfl ?_
        refine q_op (dst := some 8) rfl (fun _ ho => ok_assign ho (.bool _)) ?_
        refine hr_region_end ?_
        try dsimp only [HAct.put, List.set_cons_zero, List.set_cons_succ]
        cases h
        exact q_ret e32 at_.at_ rfl (res1 rfl rfl) ⟨rfl, rfl⟩
      · refine q_cond_f e29 (.tmp rfl) (decide_eq_false hc12) ?_
        refine q_skipc e33 ?_
        refine hr_inBlock ?_
        refine q_region e34 rfl ?_
        refine q_op (dst := some 35) rfl (fun _ ho => ok_ibin ho (.tmp rfl) (.int _ _) rfl) ?_
        refine q_op (dst := some 24) rfl (fun _ ho => ok_move ho (.tmp rfl)) ?_
        refine hr_region_end ?_
        try dsimp only [HAct.put, List.set_cons_zero, List.set_cons_succ]
        try dsimp only [HAct.put, List.set_cons_zero, List.set_cons_succ]
        exact ih h
    · refine q_cond_f e20 (.tmp rfl) (decide_eq_false hc7) ?_
      refine q_exit e22 rfl ?_
      refine q_seq e35 ?_
      refine q_region e36 rfl ?_
      refine q_op (dst := some 8) rfl (fun _ ho => ok_assign ho (.bool _)) ?_
      refine hr_region_end ?_
      try dsimp only [HAct.put, List.set_cons_zero, List.set_cons_succ]
      cases h
      exact q_ret e37 at_.at_ rfl (res1 rfl rfl) ⟨rfl, rfl⟩
def J0 (k : Nat) (y0 : (List UInt8)) (y3 : Int) (y20 : Bool) (S : HS) : Option ((Bool) × HS) :=
  (if y20 = true then
  some (false, S) else
  (Option.bind (valid_kinds.f k S) fun p3 =>
  (letv (HS.new p3.2 (.cells 256 [List.replicate 256 (.int .u16 0)] true)) fun p4 =>
  (if List.length p3.1 = 256 ∧ List.all p3.1 HV.flat = true then
  (Option.bind (HS.sets p4 (HA.cell0 p3.2.next) p3.1) fun p6 =>
  L1 k k y0 y3 (some (HA.cell0 p3.2.next)) (List.length y0 : Int) 0 p6) else none))))
theorem J0_snd {k : Nat}  {y0 : (List UInt8)} {y3 : Int} {y20 : Bool} {S : HS} {p : (Bool) × HS} {g1 g2 g4 g5 g6 g7 g8 g9 g10 g11 g12 g13 g14 g15 g16 g17 g18 g19 g21 g22 g23 g24 g25 g26 g27 g28 g29 g30 g31 g32 g33 g34 g35 : HV} (h : J0 k y0 y3 y20 S = some p) : HRun Try.prog base W0 β0 27 none [.code c5, .code c10] ⟨[(.str y0), g1, g2, (.int .u16 y3), g4, g5, g6, g7, g8, g9, g10, g11, g12, g13, g14, g15, g16, g17, g18, g19, (.bool y20), g21, g22, g23, g24, g25, g26, g27, g28, g29, g30, g31, g32, g33, g34, g35], []⟩ S (fun v S1 => v = (.bool p.1) ∧ S1 = p.2) := by
  unfold J0 at h
  rcases ifc h with ⟨hc2, h⟩ | ⟨hc2, h⟩
  · refine q_cond_t e5 (.tmp rfl) hc2 ?_
    refine q_seq e6 ?_
    refine q_region e7 rfl ?_
    refine q_op (dst := some 8) rfl (fun _ ho => ok_assign ho (.bool _)) ?_
    refine hr_region_end ?_
    try dsimp only [HAct.put, List.set_cons_zero, List.set_cons_succ]
    cases h
    exact q_ret e8 at_.at_ rfl (res1 rfl rfl) ⟨rfl, rfl⟩
  · refine q_cond_f e5 (.tmp rfl) (bfalse hc2) ?_
    refine q_skipc e9 ?_
    refine q_seq e10 ?_
    refine q_region e11 rfl ?_
    obtain ⟨p3, hp3, h⟩ := bindo h
    refine q_call (dst := some 21) rfl (.func _) Evs.nil (HInv.static valid_kinds.at_ valid_kinds.body (valid_kinds.snd  hp3)) ?_
    rintro _ _ ⟨rfl, rfl⟩
    obtain ⟨p4, hp4, h⟩ := leto h
    refine q_op (dst := some 9) rfl (fun _ ho => ok_alloc_arr ho za34 (fun β => .int _ _) (by decide) rfl hp4) ?_
    obtain ⟨hg5, h⟩ := gd h
    obtain ⟨p6, hp6, h⟩ := bindo h
    refine q_op (dst := none) rfl (fun _ ho => ok_store_arr ho sz34 (.tmp rfl) rfl (.tmp rfl) hg5 hp6) ?_
    refine hr_region_end ?_
    try dsimp only [HAct.put, List.set_cons_zero, List.set_cons_succ]
    refine q_seq e12 ?_
    refine q_seq e13 ?_
    refine q_region e14 rfl ?_
    refine q_op (dst := some 22) rfl (fun _ ho => ok_move ho (.tmp rfl)) ?_
    refine q_op (dst := some 23) rfl (fun _ ho => ok_len_str ho rfl tu9 (.tmp rfl)) ?_
    refine q_op (dst := some 24) rfl (fun _ ho => ok_move ho (.int _ _)) ?_
    refine hr_region_end ?_
    try dsimp only [HAct.put, List.set_cons_zero, List.set_cons_succ]
    refine q_block e15 ?_
    refine q_loop e16 ?_
    try dsimp only [HAct.put, List.set_cons_zero, List.set_cons_succ]
    exact L1_snd  h
def f (k : Nat) (x0 : (List UInt8)) (x1 : Int) (x2 : Int) (x3 : Int) (S : HS) : Option ((Bool) × HS) :=
  (if (List.length x0 : Int) < x1 then
  J0 k x0 x3 true S else
  J0 k x0 x3 (decide ((List.length x0 : Int) > x2)) S)
theorem snd {k : Nat} {x0 : (List UInt8)} {x1 : Int} {x2 : Int} {x3 : Int} {S : HS}  {p : (Bool) × HS} (h : f k x0 x1 x2 x3 S = some p) : HCall Try.prog base W0 β0 27 [(.str x0), (.int .i64 x1), (.int .i64 x2), (.int .u16 x3)] S (fun v S1 => v = (.bool p.1) ∧ S1 = p.2) := by
  unfold f at h
  refine HCall.of_run at_.at_ body ?_
  show HRun Try.prog base W0 β0 27 none [.code c0] ⟨[(.str x0), (.int .i64 x1), (.int .i64 x2), (.int .u16 x3), .tup [], .tup [], .tup [], .tup [], .tup [], .tup [], .tup [], .tup [], .tup [], .tup [], .tup [], .tup [], .tup [], .tup [], .tup [], .tup [], .tup [], .tup [], .tup [], .tup [], .tup [], .tup [], .tup [], .tup [], .tup [], .tup [], .tup [], .tup [], .tup [], .tup [], .tup [], .tup []], []⟩ S _
  refine q_seq e0 ?_
  refine q_region e1 rfl ?_
  refine q_op (dst := some 8) rfl (fun _ ho => ok_assign ho (.bool _)) ?_
  refine hr_region_end ?_
  try dsimp only [HAct.put, List.set_cons_zero, List.set_cons_succ]
  refine q_seq e2 ?_
  refine q_seq e3 ?_
  refine q_region e4 rfl ?_
  refine q_op (dst := some 11) rfl (fun _ ho => ok_move ho (.tmp rfl)) ?_
  refine q_op (dst := some 12) rfl (fun _ ho => ok_len_str ho rfl tu9 (.tmp rfl)) ?_
  refine q_op (dst := some 13) rfl (fun _ ho => ok_move ho (.tmp rfl)) ?_
  refine q_op (dst := some 14) rfl (fun _ ho => ok_ibin ho (.tmp rfl) (.tmp rfl) rfl) ?_
  try dsimp only [HAct.put, List.set_cons_zero, List.set_cons_succ]
  refine q_op (dst := some 15) rfl (fun _ ho => ok_move ho (.tmp rfl)) ?_
  rcases ifc h with ⟨hc1, h⟩ | ⟨hc1, h⟩
  · refine q_skip (dst := some 16) (t := 15) rfl rfl rfl (decide_eq_true hc1) ?_
    refine q_skip (dst := some 17) (t := 15) rfl rfl rfl (decide_eq_true hc1) ?_
    refine q_skip (dst := some 18) (t := 15) rfl rfl rfl (decide_eq_true hc1) ?_
    try dsimp only [HAct.put, List.set_cons_zero, List.set_cons_succ]
    refine q_skip (dst := some 19) (t := 15) rfl rfl rfl (decide_eq_true hc1) ?_
    refine q_op (dst := some 20) rfl (fun _ ho => ok_pick_tt ho (.tmp rfl) (decide_eq_true hc1) (.bool _)) ?_
    refine hr_region_end ?_
    try dsimp only [HAct.put, List.set_cons_zero, List.set_cons_succ]
    try dsimp only [HAct.put, List.set_cons_zero, List.set_cons_succ]
    exact J0_snd  h
  · refine q_op_g (t := 15) (dst := some 16) rfl rfl rfl (decide_eq_false hc1) (fun _ ho => ok_move ho (.tmp rfl)) ?_
    refine q_op_g (t := 15) (dst := some 17) rfl rfl rfl (decide_eq_false hc1) (fun _ ho => ok_len_str ho rfl tu9 (.tmp rfl)) ?_
    refine q_op_g (t := 15) (dst := some 18) rfl rfl rfl (decide_eq_false hc1) (fun _ ho => ok_move ho (.tmp rfl)) ?_
    try dsimp only [HAct.put, List.set_cons_zero, List.set_cons_succ]
    refine q_op_g (t := 15) (dst := some 19) rfl rfl rfl (decide_eq_false hc1) (fun _ ho => ok_ibin ho (.tmp rfl) (.tmp rfl) rfl) ?_
    refine q_op (dst := some 20) rfl (fun _ ho => ok_pick_ff ho (.tmp rfl) (decide_eq_false hc1) (.tmp rfl)) ?_
    refine hr_region_end ?_
    try dsimp only [HAct.put, List.set_cons_zero, List.set_cons_succ]
    try dsimp only [HAct.put, List.set_cons_zero, List.set_cons_succ]
    exact J0_snd  h
end
end valid_all
namespace valid_Nick
abbrev id : Nat := 10
theorem at_ : FnAt Try.prog 10 Try.f10 := ⟨Try.func10, by kernel_rfl⟩
noncomputable def c0 : Code := (Try.f10.body).getD .skip
noncomputable def c1 : Code := match c0 with | .seq x _ => x | _ => .skip
noncomputable def c2 : Code := match c0 with | .seq _ x => x | _ => .skip
noncomputable def c3 : Code := match c2 with | .seq x _ => x | _ => .skip
noncomputable def c4 : Code := match c2 with | .seq _ x => x | _ => .skip
theorem e0 : c0 = .seq c1 c2 := by kernel_rfl
noncomputable def r1 : Array Oper := match c1 with | .region _ x _ => x | _ => #[]
theorem e1 : c1 = .region 0 r1 false := by kernel_rfl
theorem e2 : c2 = .seq c3 c4 := by kernel_rfl
noncomputable def r3 : Array Oper := match c3 with | .region _ x _ => x | _ => #[]
theorem e3 : c3 = .region 1 r3 false := by kernel_rfl
theorem e4 : c4 = .ret := by kernel_rfl
theorem body : Try.f10.body = some c0 := by kernel_rfl
section
variable {base : Nat} {W0 : World} {β0 : Bt}
def J0 (k : Nat) (y9 : Bool) (S : HS) : Option ((Bool) × HS) :=
  some (y9, S)
theorem J0_snd {k : Nat}  {y9 : Bool} {S : HS} {p : (Bool) × HS} {g0 g1 g2 g3 g4 g5 g6 g7 g8 : HV} (h : J0 k y9 S = some p) : HRun Try.prog base W0 β0 10 none [.inRegion r3 [7], .code c4] ⟨[g0, g1, g2, g3, g4, g5, g6, g7, g8, (.bool y9)], []⟩ S (fun v S1 => v = (.bool p.1) ∧ S1 = p.2) := by
  unfold J0 at h
  refine q_op (dst := some 2) rfl (fun _ ho => ok_assign ho (.tmp rfl)) ?_
  refine hr_region_end ?_
  try dsimp only [HAct.put, List.set_cons_zero, List.set_cons_succ]
  cases h
  exact q_ret e4 at_.at_ rfl (res1 rfl rfl) ⟨rfl, rfl⟩
def f (k : Nat) (x0 : (List UInt8)) (S : HS) : Option ((Bool) × HS) :=
  (Option.bind (valid_all.f k x0 1 16 2 S) fun p1 =>
  (if p1.1 = true then
  (if 0 ≤ (0 : Int) ∧ (0 : Int) ≤ 1 ∧ (1 : Int) ≤ (List.length x0 : Int) then
  (Option.bind (valid_all.f k (ssub x0 0 1) 1 1 1 p1.2) fun p4 =>
  J0 k p4.1 p4.2) else none) else
  J0 k false p1.2))
theorem snd {k : Nat} {x0 : (List UInt8)} {S : HS}  {p : (Bool) × HS} (h : f k x0 S = some p) : HCall Try.prog base W0 β0 10 [(.str x0)] S (fun v S1 => v = (.bool p.1) ∧ S1 = p.2) := by
  unfold f at h
  refine HCall.of_run at_.at_ body ?_
  show HRun Try.prog base W0 β0 10 none [.code c0] ⟨[(.str x0), .tup [], .tup [], .tup [], .tup [], .tup [], .tup [], .tup [], .tup [], .tup []], []⟩ S _
  refine q_seq e0 ?_
  refine q_region e1 rfl ?_
  refine q_op (dst := some 2) rfl (fun _ ho => ok_assign ho (.bool _)) ?_
  refine hr_region_end ?_
  try dsimp only [HAct.put, List.set_cons_zero, List.set_cons_succ]
  refine q_seq e2 ?_
  refine q_region e3 rfl ?_
  refine q_op (dst := some 3) rfl (fun _ ho => ok_move ho (.tmp rfl)) ?_
  obtain ⟨p1, hp1, h⟩ := bindo h
  refine q_call (dst := some 4) rfl (.func _) (.cons (.tmp rfl) (.cons (.int _ _) (.cons (.int _ _) (.cons (.int _ _) Evs.nil)))) (HInv.static valid_all.at_ valid_all.body (valid_all.snd  hp1)) ?_
  rintro _ _ ⟨rfl, rfl⟩
  refine q_op (dst := some 5) rfl (fun _ ho => ok_move ho (.tmp rfl)) ?_
  rcases ifc h with ⟨hc2, h⟩ | ⟨hc2, h⟩
  · refine q_op_g (t := 5) (dst := some 6) rfl rfl rfl hc2 (fun _ ho => ok_move ho (.tmp rfl)) ?_
    try dsimp only [HAct.put, List.set_cons_zero, List.set_cons_succ]
    obtain ⟨hg3, h⟩ := gd h
    refine q_op_g (t := 5) (dst := some 7) rfl rfl rfl hc2 (fun _ ho => ok_slice_str (kl := .i64) (kh := .i64) (l := 0) (h := 1) ho tu9 (.tmp rfl) (.inl ⟨rfl, rfl⟩) (.inr ⟨_, rfl, (.int _ _)⟩) hg3.1 hg3.2.1 hg3.2.2) ?_
    obtain ⟨p4, hp4, h⟩ := bindo h
    refine q_call_g (t := 5) (dst := some 8) rfl rfl rfl hc2 (.func _) (.cons (.tmp rfl) (.cons (.int _ _) (.cons (.int _ _) (.cons (.int _ _) Evs.nil)))) (HInv.static valid_all.at_ valid_all.body (valid_all.snd  hp4)) ?_
    rintro _ _ ⟨rfl, rfl⟩
    refine q_op (dst := some 9) rfl (fun _ ho => ok_pick_tt ho (.tmp rfl) hc2 (.tmp rfl)) ?_
    try dsimp only [HAct.put, List.set_cons_zero, List.set_cons_succ]
    exact J0_snd  h
  · refine q_skip (dst := some 6) (t := 5) rfl rfl rfl (bfalse hc2) ?_
    try dsimp only [HAct.put, List.set_cons_zero, List.set_cons_succ]
    refine q_skip (dst := some 7) (t := 5) rfl rfl rfl (bfalse hc2) ?_
    refine q_skip (dst := some 8) (t := 5) rfl rfl rfl (bfalse hc2) ?_
    refine q_op (dst := some 9) rfl (fun _ ho => ok_pick_ff ho (.tmp rfl) (bfalse hc2) (.bool _)) ?_
    try dsimp only [HAct.put, List.set_cons_zero, List.set_cons_succ]
    exact J0_snd  h
end
end valid_Nick
namespace valid_Channel
abbrev id : Nat := 11
theorem at_ : FnAt Try.prog 11 Try.f11 := ⟨Try.func11, by kernel_rfl⟩
noncomputable def c0 : Code := (Try.f11.body).getD .skip
noncomputable def c1 : Code := match c0 with | .seq x _ => x | _ => .skip
noncomputable def c2 : Code := match c0 with | .seq _ x => x | _ => .skip
noncomputable def c3 : Code := match c2 with | .seq x _ => x | _ => .skip
noncomputable def c4 : Code := match c2 with | .seq _ x => x | _ => .skip
theorem e0 : c0 = .seq c1 c2 := by kernel_rfl
noncomputable def r1 : Array Oper := match c1 with | .region _ x _ => x | _ => #[]
theorem e1 : c1 = .region 0 r1 false := by kernel_rfl
theorem e2 : c2 = .seq c3 c4 := by kernel_rfl
noncomputable def r3 : Array Oper := match c3 with | .region _ x _ => x | _ => #[]
theorem e3 : c3 = .region 1 r3 false := by kernel_rfl
theorem e4 : c4 = .ret := by kernel_rfl
theorem body : Try.f11.body = some c0 := by kernel_rfl
section
variable {base : Nat} {W0 : World} {β0 : Bt}
def J1 (k : Nat) (y15 : Bool) (S : HS) : Option ((Bool) × HS) :=
  some (y15, S)
theorem J1_snd {k : Nat}  {y15 : Bool} {S : HS} {p : (Bool) × HS} {g0 g1 g2 g3 g4 g5 g6 g7 g8 g9 g10 g11 g12 g13 g14 : HV} (h : J1 k y15 S = some p) : HRun Try.prog base W0 β0 11 none [.inRegion r3 [13], .code c4] ⟨[g0, g1, g2, g3, g4, g5, g6, g7, g8, g9, g10, g11, g12, g13, g14, (.bool y15)], []⟩ S (fun v S1 => v = (.bool p.1) ∧ S1 = p.2) := by
  unfold J1 at h
  refine q_op (dst := some 2) rfl (fun _ ho => ok_assign ho (.tmp rfl)) ?_
  refine hr_region_end ?_
  try dsimp only [HAct.put, List.set_cons_zero, List.set_cons_succ]
  cases h
  exact q_ret e4 at_.at_ rfl (res1 rfl rfl) ⟨rfl, rfl⟩
def J0 (k : Nat) (y0 : (List UInt8)) (y10 : Bool) (S : HS) : Option ((Bool) × HS) :=
  (if y10 = true then
  (if 0 ≤ (1 : Int) ∧ (1 : Int) ≤ (List.length y0 : Int) ∧ ((List.length y0 : Int) : Int) ≤ (List.length y0 : Int) then
  (Option.bind (valid_all.f k (ssub y0 1 (List.length y0 : Int)) 1 49 4 S) fun p5 =>
  J1 k p5.1 p5.2) else none) else
  J1 k false S)
theorem J0_snd {k : Nat}  {y0 : (List UInt8)} {y10 : Bool} {S : HS} {p : (Bool) × HS} {g1 g2 g3 g4 g5 g6 g7 g8 g9 g11 g12 g13 g14 g15 : HV} (h : J0 k y0 y10 S = some p) : HRun Try.prog base W0 β0 11 none [.inRegion r3 [8, 9, 10, 11, 12, 13], .code c4] ⟨[(.str y0), g1, g2, g3, g4, g5, g6, g7, g8, g9, (.bool y10), g11, g12, g13, g14, g15], []⟩ S (fun v S1 => v = (.bool p.1) ∧ S1 = p.2) := by
  unfold J0 at h
  refine q_op (dst := some 11) rfl (fun _ ho => ok_move ho (.tmp rfl)) ?_
  rcases ifc h with ⟨hc3, h⟩ | ⟨hc3, h⟩
  · refine q_op_g (t := 11) (dst := some 12) rfl rfl rfl hc3 (fun _ ho => ok_move ho (.tmp rfl)) ?_
    obtain ⟨hg4, h⟩ := gd h
    refine q_op_g (t := 11) (dst := some 13) rfl rfl rfl hc3 (fun _ ho => ok_slice_str (kl := .i64) (kh := .i64) (l := 1) (h := (List.length y0 : Int)) ho tu9 (.tmp rfl) (.inr ⟨_, rfl, (.int _ _)⟩) (.inl ⟨rfl, rfl⟩) hg4.1 hg4.2.1 hg4.2.2) ?_
    obtain ⟨p5, hp5, h⟩ := bindo h
    refine q_call_g (t := 11) (dst := some 14) rfl rfl rfl hc3 (.func _) (.cons (.tmp rfl) (.cons (.int _ _) (.cons (.int _ _) (.cons (.int _ _) Evs.nil)))) (HInv.static valid_all.at_ valid_all.body (valid_all.snd  hp5)) ?_
    rintro _ _ ⟨rfl, rfl⟩
    try dsimp only [HAct.put, List.set_cons_zero, List.set_cons_succ]
    refine q_op (dst := some 15) rfl (fun _ ho => ok_pick_tt ho (.tmp rfl) hc3 (.tmp rfl)) ?_
    try dsimp only [HAct.put, List.set_cons_zero, List.set_cons_succ]
    exact J1_snd  h
  · refine q_skip (dst := some 12) (t := 11) rfl rfl rfl (bfalse hc3) ?_
    refine q_skip (dst := some 13) (t := 11) rfl rfl rfl (bfalse hc3) ?_
    refine q_skip (dst := some 14) (t := 11) rfl rfl rfl (bfalse hc3) ?_
    try dsimp only [HAct.put, List.set_cons_zero, List.set_cons_succ]
    refine q_op (dst := some 15) rfl (fun _ ho => ok_pick_ff ho (.tmp rfl) (bfalse hc3) (.bool _)) ?_
    try dsimp only [HAct.put, List.set_cons_zero, List.set_cons_succ]
    exact J1_snd  h
def f (k : Nat) (x0 : (List UInt8)) (S : HS) : Option ((Bool) × HS) :=
  (if (List.length x0 : Int) ≥ 2 then
  (Option.bind (sat x0 0) fun p2 =>
  J0 k x0 (decide ((UInt8.toNat p2 : Int) = 35)) S) else
  J0 k x0 false S)
theorem snd {k : Nat} {x0 : (List UInt8)} {S : HS}  {p : (Bool) × HS} (h : f k x0 S = some p) : HCall Try.prog base W0 β0 11 [(.str x0)] S (fun v S1 => v = (.bool p.1) ∧ S1 = p.2) := by
  unfold f at h
  refine HCall.of_run at_.at_ body ?_
  show HRun Try.prog base W0 β0 11 none [.code c0] ⟨[(.str x0), .tup [], .tup [], .tup [], .tup [], .tup [], .tup [], .tup [], .tup [], .tup [], .tup [], .tup [], .tup [], .tup [], .tup [], .tup []], []⟩ S _
  refine q_seq e0 ?_
  refine q_region e1 rfl ?_
  refine q_op (dst := some 2) rfl (fun _ ho => ok_assign ho (.bool _)) ?_
  refine hr_region_end ?_
  try dsimp only [HAct.put, List.set_cons_zero, List.set_cons_succ]
  refine q_seq e2 ?_
  refine q_region e3 rfl ?_
  refine q_op (dst := some 3) rfl (fun _ ho => ok_move ho (.tmp rfl)) ?_
  refine q_op (dst := some 4) rfl (fun _ ho => ok_len_str ho rfl tu9 (.tmp rfl)) ?_
  refine q_op (dst := some 5) rfl (fun _ ho => ok_ibin ho (.tmp rfl) (.int _ _) rfl) ?_
  refine q_op (dst := some 6) rfl (fun _ ho => ok_move ho (.tmp rfl)) ?_
  try dsimp only [HAct.put, List.set_cons_zero, List.set_cons_succ]
  rcases ifc h with ⟨hc1, h⟩ | ⟨hc1, h⟩
  · refine q_op_g (t := 6) (dst := some 7) rfl rfl rfl (decide_eq_true hc1) (fun _ ho => ok_move ho (.tmp rfl)) ?_
    obtain ⟨p2, hp2, h⟩ := bindo h
    refine q_op_g (t := 6) (dst := some 8) rfl rfl rfl (decide_eq_true hc1) (fun _ ho => ok_index_s ho tu9 (.tmp rfl) (.int _ _) hp2) ?_
    refine q_op_g (t := 6) (dst := some 9) rfl rfl rfl (decide_eq_true hc1) (fun _ ho => ok_ibin ho (.tmp rfl) (.int _ _) rfl) ?_
    refine q_op (dst := some 10) rfl (fun _ ho => ok_pick_tt ho (.tmp rfl) (decide_eq_true hc1) (.tmp rfl)) ?_
    try dsimp only [HAct.put, List.set_cons_zero, List.set_cons_succ]
    try dsimp only [HAct.put, List.set_cons_zero, List.set_cons_succ]
    exact J0_snd  h
  · refine q_skip (dst := some 7) (t := 6) rfl rfl rfl (decide_eq_false hc1) ?_
    refine q_skip (dst := some 8) (t := 6) rfl rfl rfl (decide_eq_false hc1) ?_
    refine q_skip (dst := some 9) (t := 6) rfl rfl rfl (decide_eq_false hc1) ?_
    refine q_op (dst := some 10) rfl (fun _ ho => ok_pick_ff ho (.tmp rfl) (decide_eq_false hc1) (.bool _)) ?_
    try dsimp only [HAct.put, List.set_cons_zero, List.set_cons_succ]
    try dsimp only [HAct.put, List.set_cons_zero, List.set_cons_succ]
    exact J0_snd  h
end
end valid_Channel
namespace rollcalllaw03_awake
abbrev id : Nat := 7
theorem at_ : FnAt Try.prog 7 Try.f7 := ⟨Try.func7, by kernel_rfl⟩
noncomputable def c0 : Code := (Try.f7.body).getD .skip
noncomputable def c1 : Code := match c0 with | .seq x _ => x | _ => .skip
noncomputable def c2 : Code := match c0 with | .seq _ x => x | _ => .skip
noncomputable def c3 : Code := match c2 with | .seq x _ => x | _ => .skip
noncomputable def c4 : Code := match c2 with | .seq _ x => x | _ => .skip
theorem e0 : c0 = .seq c1 c2 := by kernel_rfl
noncomputable def r1 : Array Oper := match c1 with | .region _ x _ => x | _ => #[]
theorem e1 : c1 = .region 0 r1 false := by kernel_rfl
theorem e2 : c2 = .seq c3 c4 := by kernel_rfl
noncomputable def r3 : Array Oper := match c3 with | .region _ x _ => x | _ => #[]
theorem e3 : c3 = .region 1 r3 false := by kernel_rfl
theorem e4 : c4 = .ret := by kernel_rfl
theorem body : Try.f7.body = some c0 := by kernel_rfl
section
variable {base : Nat} {W0 : World} {β0 : Bt}
def J3 (k : Nat) (y16 : Bool) (S : HS) : Option ((Bool) × HS) :=
  some (y16, S)
theorem J3_snd {k : Nat}  {y16 : Bool} {S : HS} {p : (Bool) × HS} {g0 g1 g2 g3 g4 g5 g6 g7 g8 g9 g10 g11 g12 g13 g14 g15 : HV} (h : J3 k y16 S = some p) : HRun Try.prog base W0 β0 7 none [.inRegion r3 [16], .code c4] ⟨[g0, g1, g2, g3, g4, g5, g6, g7, g8, g9, g10, g11, g12, g13, g14, g15, (.bool y16)], []⟩ S (fun v S1 => v = (.bool p.1) ∧ S1 = p.2) := by
  unfold J3 at h
  refine q_op (dst := some 0) rfl (fun _ ho => ok_assign ho (.tmp rfl)) ?_
  refine hr_region_end ?_
  try dsimp only [HAct.put, List.set_cons_zero, List.set_cons_succ]
  cases h
  exact q_ret e4 at_.at_ rfl (res1 rfl rfl) ⟨rfl, rfl⟩
def J2 (k : Nat) (y12 : Bool) (S : HS) : Option ((Bool) × HS) :=
  (if y12 = true then
  (Option.bind (valid_Channel.f k ([35] : List UInt8) S) fun p9 =>
  J3 k (!p9.1) p9.2) else
  J3 k false S)
theorem J2_snd {k : Nat}  {y12 : Bool} {S : HS} {p : (Bool) × HS} {g0 g1 g2 g3 g4 g5 g6 g7 g8 g9 g10 g11 g13 g14 g15 g16 : HV} (h : J2 k y12 S = some p) : HRun Try.prog base W0 β0 7 none [.inRegion r3 [12, 13, 14, 15, 16], .code c4] ⟨[g0, g1, g2, g3, g4, g5, g6, g7, g8, g9, g10, g11, (.bool y12), g13, g14, g15, g16], []⟩ S (fun v S1 => v = (.bool p.1) ∧ S1 = p.2) := by
  unfold J2 at h
  refine q_op (dst := some 13) rfl (fun _ ho => ok_move ho (.tmp rfl)) ?_
  rcases ifc h with ⟨hc8, h⟩ | ⟨hc8, h⟩
  · obtain ⟨p9, hp9, h⟩ := bindo h
    refine q_call_g (t := 13) (dst := some 14) rfl rfl rfl hc8 (.func _) (.cons (.str _) Evs.nil) (HInv.static valid_Channel.at_ valid_Channel.body (valid_Channel.snd  hp9)) ?_
    rintro _ _ ⟨rfl, rfl⟩
    refine q_op_g (t := 13) (dst := some 15) rfl rfl rfl hc8 (fun _ ho => ok_not ho (.tmp rfl)) ?_
    refine q_op (dst := some 16) rfl (fun _ ho => ok_pick_tt ho (.tmp rfl) hc8 (.tmp rfl)) ?_
    try dsimp only [HAct.put, List.set_cons_zero, List.set_cons_succ]
    try dsimp only [HAct.put, List.set_cons_zero, List.set_cons_succ]
    exact J3_snd  h
  · refine q_skip (dst := some 14) (t := 13) rfl rfl rfl (bfalse hc8) ?_
    refine q_skip (dst := some 15) (t := 13) rfl rfl rfl (bfalse hc8) ?_
    refine q_op (dst := some 16) rfl (fun _ ho => ok_pick_ff ho (.tmp rfl) (bfalse hc8) (.bool _)) ?_
    try dsimp only [HAct.put, List.set_cons_zero, List.set_cons_succ]
    try dsimp only [HAct.put, List.set_cons_zero, List.set_cons_succ]
    exact J3_snd  h
def J1 (k : Nat) (y9 : Bool) (S : HS) : Option ((Bool) × HS) :=
  (if y9 = true then
  (Option.bind (valid_Channel.f k ([35, 97] : List UInt8) S) fun p7 =>
  J2 k p7.1 p7.2) else
  J2 k false S)
theorem J1_snd {k : Nat}  {y9 : Bool} {S : HS} {p : (Bool) × HS} {g0 g1 g2 g3 g4 g5 g6 g7 g8 g10 g11 g12 g13 g14 g15 g16 : HV} (h : J1 k y9 S = some p) : HRun Try.prog base W0 β0 7 none [.inRegion r3 [9, 10, 11, 12, 13, 14, 15, 16], .code c4] ⟨[g0, g1, g2, g3, g4, g5, g6, g7, g8, (.bool y9), g10, g11, g12, g13, g14, g15, g16], []⟩ S (fun v S1 => v = (.bool p.1) ∧ S1 = p.2) := by
  unfold J1 at h
  refine q_op (dst := some 10) rfl (fun _ ho => ok_move ho (.tmp rfl)) ?_
  rcases ifc h with ⟨hc6, h⟩ | ⟨hc6, h⟩
  · obtain ⟨p7, hp7, h⟩ := bindo h
    refine q_call_g (t := 10) (dst := some 11) rfl rfl rfl hc6 (.func _) (.cons (.str _) Evs.nil) (HInv.static valid_Channel.at_ valid_Channel.body (valid_Channel.snd  hp7)) ?_
    rintro _ _ ⟨rfl, rfl⟩
    refine q_op (dst := some 12) rfl (fun _ ho => ok_pick_tt ho (.tmp rfl) hc6 (.tmp rfl)) ?_
    try dsimp only [HAct.put, List.set_cons_zero, List.set_cons_succ]
    try dsimp only [HAct.put, List.set_cons_zero, List.set_cons_succ]
    exact J2_snd  h
  · refine q_skip (dst := some 11) (t := 10) rfl rfl rfl (bfalse hc6) ?_
    refine q_op (dst := some 12) rfl (fun _ ho => ok_pick_ff ho (.tmp rfl) (bfalse hc6) (.bool _)) ?_
    try dsimp only [HAct.put, List.set_cons_zero, List.set_cons_succ]
    try dsimp only [HAct.put, List.set_cons_zero, List.set_cons_succ]
    exact J2_snd  h
def J0 (k : Nat) (y5 : Bool) (S : HS) : Option ((Bool) × HS) :=
  (if y5 = true then
  (Option.bind (valid_Nick.f k ([49, 97] : List UInt8) S) fun p5 =>
  J1 k (!p5.1) p5.2) else
  J1 k false S)
theorem J0_snd {k : Nat}  {y5 : Bool} {S : HS} {p : (Bool) × HS} {g0 g1 g2 g3 g4 g6 g7 g8 g9 g10 g11 g12 g13 g14 g15 g16 : HV} (h : J0 k y5 S = some p) : HRun Try.prog base W0 β0 7 none [.inRegion r3 [5, 6, 7, 8, 9, 10, 11, 12, 13, 14, 15, 16], .code c4] ⟨[g0, g1, g2, g3, g4, (.bool y5), g6, g7, g8, g9, g10, g11, g12, g13, g14, g15, g16], []⟩ S (fun v S1 => v = (.bool p.1) ∧ S1 = p.2) := by
  unfold J0 at h
  refine q_op (dst := some 6) rfl (fun _ ho => ok_move ho (.tmp rfl)) ?_
  rcases ifc h with ⟨hc4, h⟩ | ⟨hc4, h⟩
  · obtain ⟨p5, hp5, h⟩ := bindo h
    refine q_call_g (t := 6) (dst := some 7) rfl rfl rfl hc4 (.func _) (.cons (.str _) Evs.nil) (HInv.static valid_Nick.at_ valid_Nick.body (valid_Nick.snd  hp5)) ?_
    rintro _ _ ⟨rfl, rfl⟩
    refine q_op_g (t := 6) (dst := some 8) rfl rfl rfl hc4 (fun _ ho => ok_not ho (.tmp rfl)) ?_
    try dsimp only [HAct.put, List.set_cons_zero, List.set_cons_succ]
    refine q_op (dst := some 9) rfl (fun _ ho => ok_pick_tt ho (.tmp rfl) hc4 (.tmp rfl)) ?_
    try dsimp only [HAct.put, List.set_cons_zero, List.set_cons_succ]
    exact J1_snd  h
  · refine q_skip (dst := some 7) (t := 6) rfl rfl rfl (bfalse hc4) ?_
    refine q_skip (dst := some 8) (t := 6) rfl rfl rfl (bfalse hc4) ?_
    try dsimp only [HAct.put, List.set_cons_zero, List.set_cons_succ]
    refine q_op (dst := some 9) rfl (fun _ ho => ok_pick_ff ho (.tmp rfl) (bfalse hc4) (.bool _)) ?_
    try dsimp only [HAct.put, List.set_cons_zero, List.set_cons_succ]
    exact J1_snd  h
def f (k : Nat) (S : HS) : Option ((Bool) × HS) :=
  (Option.bind (valid_Nick.f k ([97, 45, 98] : List UInt8) S) fun p1 =>
  (if p1.1 = true then
  (Option.bind (valid_Nick.f k ([45, 97] : List UInt8) p1.2) fun p3 =>
  J0 k (!p3.1) p3.2) else
  J0 k false p1.2))
theorem snd {k : Nat} {S : HS}  {p : (Bool) × HS} (h : f k S = some p) : HCall Try.prog base W0 β0 7 [] S (fun v S1 => v = (.bool p.1) ∧ S1 = p.2) := by
  unfold f at h
  refine HCall.of_run at_.at_ body ?_
  show HRun Try.prog base W0 β0 7 none [.code c0] ⟨[.tup [], .tup [], .tup [], .tup [], .tup [], .tup [], .tup [], .tup [], .tup [], .tup [], .tup [], .tup [], .tup [], .tup [], .tup [], .tup [], .tup []], []⟩ S _
  refine q_seq e0 ?_
  refine q_region e1 rfl ?_
  refine q_op (dst := some 0) rfl (fun _ ho => ok_assign ho (.bool _)) ?_
  refine hr_region_end ?_
  try dsimp only [HAct.put, List.set_cons_zero, List.set_cons_succ]
  refine q_seq e2 ?_
  refine q_region e3 rfl ?_
  obtain ⟨p1, hp1, h⟩ := bindo h
  refine q_call (dst := some 1) rfl (.func _) (.cons (.str _) Evs.nil) (HInv.static valid_Nick.at_ valid_Nick.body (valid_Nick.snd  hp1)) ?_
  rintro _ _ ⟨rfl, rfl⟩
  refine q_op (dst := some 2) rfl (fun _ ho => ok_move ho (.tmp rfl)) ?_
  rcases ifc h with ⟨hc2, h⟩ | ⟨hc2, h⟩
  · obtain ⟨p3, hp3, h⟩ := bindo h
    refine q_call_g (t := 2) (dst := some 3) rfl rfl rfl hc2 (.func _) (.cons (.str _) Evs.nil) (HInv.static valid_Nick.at_ valid_Nick.body (valid_Nick.snd  hp3)) ?_
    rintro _ _ ⟨rfl, rfl⟩
    refine q_op_g (t := 2) (dst := some 4) rfl rfl rfl hc2 (fun _ ho => ok_not ho (.tmp rfl)) ?_
    try dsimp only [HAct.put, List.set_cons_zero, List.set_cons_succ]
    refine q_op (dst := some 5) rfl (fun _ ho => ok_pick_tt ho (.tmp rfl) hc2 (.tmp rfl)) ?_
    try dsimp only [HAct.put, List.set_cons_zero, List.set_cons_succ]
    exact J0_snd  h
  · refine q_skip (dst := some 3) (t := 2) rfl rfl rfl (bfalse hc2) ?_
    refine q_skip (dst := some 4) (t := 2) rfl rfl rfl (bfalse hc2) ?_
    try dsimp only [HAct.put, List.set_cons_zero, List.set_cons_succ]
    refine q_op (dst := some 5) rfl (fun _ ho => ok_pick_ff ho (.tmp rfl) (bfalse hc2) (.bool _)) ?_
    try dsimp only [HAct.put, List.set_cons_zero, List.set_cons_succ]
    exact J0_snd  h
end
end rollcalllaw03_awake
namespace rollcallref01_Byte
abbrev id : Nat := 38
theorem at_ : FnAt Try.prog 38 Try.f38 := ⟨Try.func38, by kernel_rfl⟩
noncomputable def c0 : Code := (Try.f38.body).getD .skip
noncomputable def c1 : Code := match c0 with | .seq x _ => x | _ => .skip
noncomputable def c2 : Code := match c0 with | .seq _ x => x | _ => .skip
noncomputable def c3 : Code := match c2 with | .seq x _ => x | _ => .skip
noncomputable def c4 : Code := match c2 with | .seq _ x => x | _ => .skip
noncomputable def c5 : Code := match c4 with | .seq x _ => x | _ => .skip
noncomputable def c6 : Code := match c4 with | .seq _ x => x | _ => .skip
noncomputable def c7 : Code := match c6 with | .seq x _ => x | _ => .skip
noncomputable def c8 : Code := match c7 with | .seq x _ => x | _ => .skip
noncomputable def c9 : Code := match c7 with | .seq _ x => x | _ => .skip
noncomputable def c10 : Code := match c9 with | .block _ x => x | _ => .skip
noncomputable def c11 : Code := match c10 with | .loop x => x | _ => .skip
noncomputable def c12 : Code := match c11 with | .seq x _ => x | _ => .skip
noncomputable def c13 : Code := match c12 with | .seq x _ => x | _ => .skip
noncomputable def c14 : Code := match c12 with | .seq _ x => x | _ => .skip
noncomputable def c15 : Code := match c14 with | .cond _ x _ => x | _ => .skip
noncomputable def c16 : Code := match c14 with | .cond _ _ x => x | _ => .skip
noncomputable def c17 : Code := match c11 with | .seq _ x => x | _ => .skip
noncomputable def c18 : Code := match c17 with | .seq x _ => x | _ => .skip
noncomputable def c19 : Code := match c18 with | .block _ x => x | _ => .skip
noncomputable def c20 : Code := match c19 with | .seq x _ => x | _ => .skip
noncomputable def c21 : Code := match c19 with | .seq _ x => x | _ => .skip
noncomputable def c22 : Code := match c21 with | .cond _ x _ => x | _ => .skip
noncomputable def c23 : Code := match c22 with | .seq x _ => x | _ => .skip
noncomputable def c24 : Code := match c22 with | .seq _ x => x | _ => .skip
noncomputable def c25 : Code := match c21 with | .cond _ _ x => x | _ => .skip
noncomputable def c26 : Code := match c17 with | .seq _ x => x | _ => .skip
noncomputable def c27 : Code := match c6 with | .seq _ x => x | _ => .skip
noncomputable def c28 : Code := match c27 with | .seq x _ => x | _ => .skip
noncomputable def c29 : Code := match c27 with | .seq _ x => x | _ => .skip
theorem e0 : c0 = .seq c1 c2 := by kernel_rfl
noncomputable def r1 : Array Oper := match c1 with | .region _ x _ => x | _ => #[]
theorem e1 : c1 = .region 0 r1 false := by kernel_rfl
theorem e2 : c2 = .seq c3 c4 := by kernel_rfl
noncomputable def r3 : Array Oper := match c3 with | .region _ x _ => x | _ => #[]
theorem e3 : c3 = .region 1 r3 false := by kernel_rfl
theorem e4 : c4 = .seq c5 c6 := by kernel_rfl
noncomputable def r5 : Array Oper := match c5 with | .region _ x _ => x | _ => #[]
theorem e5 : c5 = .region 2 r5 false := by kernel_rfl
theorem e6 : c6 = .seq c7 c27 := by kernel_rfl
theorem e7 : c7 = .seq c8 c9 := by kernel_rfl
noncomputable def r8 : Array Oper := match c8 with | .region _ x _ => x | _ => #[]
theorem e8 : c8 = .region 3 r8 false := by kernel_rfl
theorem e9 : c9 = .block 0 c10 := by kernel_rfl
theorem e10 : c10 = .loop c11 := by kernel_rfl
theorem e11 : c11 = .seq c12 c17 := by kernel_rfl
theorem e12 : c12 = .seq c13 c14 := by kernel_rfl
noncomputable def r13 : Array Oper := match c13 with | .region _ x _ => x | _ => #[]
theorem e13 : c13 = .region 4 r13 false := by kernel_rfl
theorem e14 : c14 = .cond (.tmp 9) c15 c16 := by kernel_rfl
theorem e15 : c15 = .skip := by kernel_rfl
theorem e16 : c16 = .exit 0 := by kernel_rfl
theorem e17 : c17 = .seq c18 c26 := by kernel_rfl
theorem e18 : c18 = .block 1 c19 := by kernel_rfl
theorem e19 : c19 = .seq c20 c21 := by kernel_rfl
noncomputable def r20 : Array Oper := match c20 with | .region _ x _ => x | _ => #[]
theorem e20 : c20 = .region 6 r20 false := by kernel_rfl
theorem e21 : c21 = .cond (.tmp 16) c22 c25 := by kernel_rfl
theorem e22 : c22 = .seq c23 c24 := by kernel_rfl
noncomputable def r23 : Array Oper := match c23 with | .region _ x _ => x | _ => #[]
theorem e23 : c23 = .region 7 r23 false := by kernel_rfl
theorem e24 : c24 = .ret := by kernel_rfl
theorem e25 : c25 = .skip := by kernel_rfl
noncomputable def r26 : Array Oper := match c26 with | .region _ x _ => x | _ => #[]
theorem e26 : c26 = .region 5 r26 false := by kernel_rfl
theorem e27 : c27 = .seq c28 c29 := by kernel_rfl
noncomputable def r28 : Array Oper := match c28 with | .region _ x _ => x | _ => #[]
theorem e28 : c28 = .region 8 r28 false := by kernel_rfl
theorem e29 : c29 = .ret := by kernel_rfl
theorem body : Try.f38.body = some c0 := by kernel_rfl
section
variable {base : Nat} {W0 : World} {β0 : Bt}
def L0 (k : Nat) : Nat → Int → (List UInt8) → (List UInt8) → Int → Option (Int)
  | 0, _, _, _, _ => none
  | n + 1, y0, y3, y4, y5 =>
    (if y5 < (List.length y3 : Int) then
    (Option.bind (sat y3 y5) fun p2 =>
    (if (UInt8.toNat p2 : Int) = y0 then
    (Option.bind (sat y4 y5) fun p4 =>
    some (UInt8.toNat p4 : Int)) else
    (L0 k n) y0 y3 y4 (w64 (y5 + 1)))) else
    some y0)
theorem L0_snd {k : Nat}  : ∀ {n : Nat} ⦃y0 : Int⦄ ⦃y3 : (List UInt8)⦄ ⦃y4 : (List UInt8)⦄ ⦃y5 : Int⦄ ⦃S : HS⦄ ⦃p : Int⦄ ⦃g1 g2 g6 g7 g8 g9 g10 g11 g12 g13 g14 g15 g16 g17 g18 g19 g20 : HV⦄, L0 k n y0 y3 y4 y5 = some p → HRun Try.prog base W0 β0 38 none [.inLoop c11, .inBlock 0, .code c27] ⟨[(.int .u8 y0), g1, g2, (.str y3), (.str y4), (.int .i64 y5), g6, g7, g8, g9, g10, g11, g12, g13, g14, g15, g16, g17, g18, g19, g20], []⟩ S (fun v S1 => v = (.int .u8 p) ∧ S1 = S) := by
  intro n
  induction n with
  | zero => intro _ _ _ _ _ _ _ _ _ _ _ _ _ _ _ _ _ _ _ _ _ _ _ h; cases h
  | succ n ih =>
    intro y0 y3 y4 y5 S p g1 g2 g6 g7 g8 g9 g10 g11 g12 g13 g14 g15 g16 g17 g18 g19 g20 h
    simp only [L0] at h
    refine hr_inLoop ?_
    refine q_seq e11 ?_
    refine q_seq e12 ?_
    refine q_region e13 rfl ?_
    refine q_op (dst := some 6) rfl (fun _ ho => ok_move ho (.tmp rfl)) ?_
    refine q_op (dst := some 7) rfl (fun _ ho => ok_move ho (.tmp rfl)) ?_
    refine q_op (dst := some 8) rfl (fun _ ho => ok_len_str ho rfl tu9 (.tmp rfl)) ?_
    refine q_op (dst := some 9) rfl (fun _ ho => ok_ibin ho (.tmp rfl) (.tmp rfl) rfl) ?_
    refine hr_region_end ?_
    try dsimp only [HAct.put, List.set_cons_zero, List.set_cons_succ]
    rcases ifc h with ⟨hc1, h⟩ | ⟨hc1, h⟩
    · refine q_cond_t e14 (.tmp rfl) (decide_eq_true hc1) ?_
      refine q_skipc e15 ?_
      refine q_seq e17 ?_
      refine q_block e18 ?_
      refine q_seq e19 ?_
      refine q_region e20 rfl ?_
      refine q_op (dst := some 12) rfl (fun _ ho => ok_move ho (.tmp rfl)) ?_
      refine q_op (dst := some 13) rfl (fun _ ho => ok_move ho (.tmp rfl)) ?_
      obtain ⟨p2, hp2, h⟩ := bindo h
      refine q_op (dst := some 14) rfl (fun _ ho => ok_index_s ho tu9 (.tmp rfl) (.tmp rfl) hp2) ?_
      refine q_op (dst := some 15) rfl (fun _ ho => ok_move ho (.tmp rfl)) ?_
      try dsimp only [HAct.put, List.set_cons_zero, List.set_cons_succ]
      refine q_op (dst := some 16) rfl (fun _ ho => ok_ibin ho (.tmp rfl) (.tmp rfl) rfl) ?_
      refine hr_region_end ?_
      try dsimp only [HAct.put, List.set_cons_zero, List.set_cons_succ]
      rcases ifc h with ⟨hc3, h⟩ | ⟨hc3, h⟩
      · refine q_cond_t e21 (.tmp rfl) (decide_eq_true hc3) ?_
        refine q_seq e22 ?_
        refine q_region e23 rfl ?_
        refine q_op (dst := some 17) rfl (fun _ ho => ok_move ho (.tmp rfl)) ?_
        refine q_op (dst := some 18) rfl (fun _ ho => ok_move ho (.tmp rfl)) ?_
        obtain ⟨p4, hp4, h⟩ := bindo h
        refine q_op (dst := some 19) rfl (fun _ ho => ok_index_s ho tu9 (.tmp rfl) (.tmp rfl) hp4) ?_
        refine q_op (dst := some 2) rfl (fun _ ho => ok_assign ho (.tmp rfl)) ?_
        refine hr_region_end ?_
        try dsimp only [HAct.put, List.set_cons_zero, List.set_cons_succ]
        cases h
        exact q_ret e24 at_.at_ rfl (res1 rfl rfl) ⟨rfl, rfl⟩
      · refine q_cond_f e21 (.tmp rfl) (decide_eq_false hc3) ?_
        refine q_skipc e25 ?_
        refine hr_inBlock ?_
        refine q_region e26 rfl ?_
        refine q_op (dst := some 10) rfl (fun _ ho => ok_move ho (.tmp rfl)) ?_
        refine q_op (dst := some 11) rfl (fun _ ho => ok_ibin ho (.tmp rfl) (.int _ _) rfl) ?_
        refine q_op (dst := some 5) rfl (fun _ ho => ok_assign ho (.tmp rfl)) ?_
        refine hr_region_end ?_
        try dsimp only [HAct.put, List.set_cons_zero, List.set_cons_succ]
        try dsimp only [HAct.put, List.set_cons_zero, List.set_cons_succ]
        exact ih h
    · refine q_cond_f e14 (.tmp rfl) (decide_eq_false hc1) ?_
      refine q_exit e16 rfl ?_
      refine q_seq e27 ?_
      refine q_region e28 rfl ?_
      refine q_op (dst := some 20) rfl (fun _ ho => ok_move ho (.tmp rfl)) ?_
      refine q_op (dst := some 2) rfl (fun _ ho => ok_assign ho (.tmp rfl)) ?_
      refine hr_region_end ?_
      try dsimp only [HAct.put, List.set_cons_zero, List.set_cons_succ]
      cases h
      exact q_ret e29 at_.at_ rfl (res1 rfl rfl) ⟨rfl, rfl⟩
def f (k : Nat) (x0 : Int) : Option (Int) :=
  L0 k k x0 ([65, 66, 67, 68, 69, 70, 71, 72, 73, 74, 75, 76, 77, 78, 79, 80, 81, 82, 83, 84, 85, 86, 87, 88, 89, 90, 91, 93, 92, 126] : List UInt8) ([97, 98, 99, 100, 101, 102, 103, 104, 105, 106, 107, 108, 109, 110, 111, 112, 113, 114, 115, 116, 117, 118, 119, 120, 121, 122, 123, 125, 124, 94] : List UInt8) 0
theorem snd {k : Nat} {x0 : Int} {S : HS}  {p : Int} (h : f k x0 = some p) : HCall Try.prog base W0 β0 38 [(.int .u8 x0)] S (fun v S1 => v = (.int .u8 p) ∧ S1 = S) := by
  unfold f at h
  refine HCall.of_run at_.at_ body ?_
  show HRun Try.prog base W0 β0 38 none [.code c0] ⟨[(.int .u8 x0), .tup [], .tup [], .tup [], .tup [], .tup [], .tup [], .tup [], .tup [], .tup [], .tup [], .tup [], .tup [], .tup [], .tup [], .tup [], .tup [], .tup [], .tup [], .tup [], .tup []], []⟩ S _
  refine q_seq e0 ?_
  refine q_region e1 rfl ?_
  refine q_op (dst := some 2) rfl (fun _ ho => ok_assign ho (.int _ _)) ?_
  refine hr_region_end ?_
  try dsimp only [HAct.put, List.set_cons_zero, List.set_cons_succ]
  refine q_seq e2 ?_
  refine q_region e3 rfl ?_
  refine q_op (dst := some 3) rfl (fun _ ho => ok_assign ho (.str _)) ?_
  refine hr_region_end ?_
  try dsimp only [HAct.put, List.set_cons_zero, List.set_cons_succ]
  refine q_seq e4 ?_
  refine q_region e5 rfl ?_
  refine q_op (dst := some 4) rfl (fun _ ho => ok_assign ho (.str _)) ?_
  refine hr_region_end ?_
  try dsimp only [HAct.put, List.set_cons_zero, List.set_cons_succ]
  refine q_seq e6 ?_
  refine q_seq e7 ?_
  refine q_region e8 rfl ?_
  refine q_op (dst := some 5) rfl (fun _ ho => ok_assign ho (.int _ _)) ?_
  refine hr_region_end ?_
  try dsimp only [HAct.put, List.set_cons_zero, List.set_cons_succ]
  refine q_block e9 ?_
  refine q_loop e10 ?_
  try dsimp only [HAct.put, List.set_cons_zero, List.set_cons_succ]
  exact L0_snd  h
end
end rollcallref01_Byte
namespace rollcallref01_Text
abbrev id : Nat := 26
theorem at_ : FnAt Try.prog 26 Try.f26 := ⟨Try.func26, by kernel_rfl⟩
noncomputable def c0 : Code := (Try.f26.body).getD .skip
noncomputable def c1 : Code := match c0 with | .seq x _ => x | _ => .skip
noncomputable def c2 : Code := match c0 with | .seq _ x => x | _ => .skip
noncomputable def c3 : Code := match c2 with | .seq x _ => x | _ => .skip
noncomputable def c4 : Code := match c2 with | .seq _ x => x | _ => .skip
noncomputable def c5 : Code := match c4 with | .seq x _ => x | _ => .skip
noncomputable def c6 : Code := match c5 with | .seq x _ => x | _ => .skip
noncomputable def c7 : Code := match c5 with | .seq _ x => x | _ => .skip
noncomputable def c8 : Code := match c7 with | .block _ x => x | _ => .skip
noncomputable def c9 : Code := match c8 with | .loop x => x | _ => .skip
noncomputable def c10 : Code := match c9 with | .seq x _ => x | _ => .skip
noncomputable def c11 : Code := match c10 with | .seq x _ => x | _ => .skip
noncomputable def c12 : Code := match c10 with | .seq _ x => x | _ => .skip
noncomputable def c13 : Code := match c12 with | .cond _ x _ => x | _ => .skip
noncomputable def c14 : Code := match c12 with | .cond _ _ x => x | _ => .skip
noncomputable def c15 : Code := match c9 with | .seq _ x => x | _ => .skip
noncomputable def c16 : Code := match c15 with | .seq x _ => x | _ => .skip
noncomputable def c17 : Code := match c16 with | .block _ x => x | _ => .skip
noncomputable def c18 : Code := match c15 with | .seq _ x => x | _ => .skip
noncomputable def c19 : Code := match c4 with | .seq _ x => x | _ => .skip
noncomputable def c20 : Code := match c19 with | .seq x _ => x | _ => .skip
noncomputable def c21 : Code := match c19 with | .seq _ x => x | _ => .skip
theorem e0 : c0 = .seq c1 c2 := by kernel_rfl
noncomputable def r1 : Array Oper := match c1 with | .region _ x _ => x | _ => #[]
theorem e1 : c1 = .region 0 r1 false := by kernel_rfl
theorem e2 : c2 = .seq c3 c4 := by kernel_rfl
noncomputable def r3 : Array Oper := match c3 with | .region _ x _ => x | _ => #[]
theorem e3 : c3 = .region 1 r3 false := by kernel_rfl
theorem e4 : c4 = .seq c5 c19 := by kernel_rfl
theorem e5 : c5 = .seq c6 c7 := by kernel_rfl
noncomputable def r6 : Array Oper := match c6 with | .region _ x _ => x | _ => #[]
theorem e6 : c6 = .region 2 r6 false := by kernel_rfl
theorem e7 : c7 = .block 0 c8 := by kernel_rfl
theorem e8 : c8 = .loop c9 := by kernel_rfl
theorem e9 : c9 = .seq c10 c15 := by kernel_rfl
theorem e10 : c10 = .seq c11 c12 := by kernel_rfl
noncomputable def r11 : Array Oper := match c11 with | .region _ x _ => x | _ => #[]
theorem e11 : c11 = .region 3 r11 false := by kernel_rfl
theorem e12 : c12 = .cond (.tmp 8) c13 c14 := by kernel_rfl
theorem e13 : c13 = .skip := by kernel_rfl
theorem e14 : c14 = .exit 0 := by kernel_rfl
theorem e15 : c15 = .seq c16 c18 := by kernel_rfl
theorem e16 : c16 = .block 1 c17 := by kernel_rfl
noncomputable def r17 : Array Oper := match c17 with | .region _ x _ => x | _ => #[]
theorem e17 : c17 = .region 5 r17 false := by kernel_rfl
noncomputable def r18 : Array Oper := match c18 with | .region _ x _ => x | _ => #[]
theorem e18 : c18 = .region 4 r18 false := by kernel_rfl
theorem e19 : c19 = .seq c20 c21 := by kernel_rfl
noncomputable def r20 : Array Oper := match c20 with | .region _ x _ => x | _ => #[]
theorem e20 : c20 = .region 6 r20 false := by kernel_rfl
theorem e21 : c21 = .ret := by kernel_rfl
theorem body : Try.f26.body = some c0 := by kernel_rfl
section
variable {base : Nat} {W0 : World} {β0 : Bt}
def L0 (k : Nat) : Nat → (List UInt8) → (List UInt8) → Int → HS → Option (((List UInt8)) × HS)
  | 0, _, _, _, _ => none
  | n + 1, y0, y3, y4, S =>
    (if y4 < (List.length y0 : Int) then
    (Option.bind (sat y0 y4) fun p2 =>
    (Option.bind (rollcallref01_Byte.f k (UInt8.toNat p2 : Int)) fun p3 =>
    (letv (HS.lit S [[(.int .u8 p3)]] 1) fun p4 =>
    (Option.bind (HS.text (p4.2) (p4.1)) fun p5 =>
    (if List.length y3 + List.length p5 ≤ 9223372036854775807 then
    (L0 k n) y0 (y3 ++ p5) (w64 (y4 + 1)) (p4.2) else none))))) else
    some (y3, S))
theorem L0_snd {k : Nat}  : ∀ {n : Nat} ⦃y0 : (List UInt8)⦄ ⦃y3 : (List UInt8)⦄ ⦃y4 : Int⦄ ⦃S : HS⦄ ⦃p : ((List UInt8)) × HS⦄ ⦃g1 g2 g5 g6 g7 g8 g9 g10 g11 g12 g13 g14 g15 g16 g17 g18 g19 : HV⦄, L0 k n y0 y3 y4 S = some p → HRun Try.prog base W0 β0 26 none [.inLoop c9, .inBlock 0, .code c19] ⟨[(.str y0), g1, g2, (.str y3), (.int .i64 y4), g5, g6, g7, g8, g9, g10, g11, g12, g13, g14, g15, g16, g17, g18, g19], []⟩ S (fun v S1 => v = (.str p.1) ∧ S1 = p.2) := by
  intro n
  induction n with
  | zero => intro _ _ _ _ _ _ _ _ _ _ _ _ _ _ _ _ _ _ _ _ _ _ h; cases h
  | succ n ih =>
    intro y0 y3 y4 S p g1 g2 g5 g6 g7 g8 g9 g10 g11 g12 g13 g14 g15 g16 g17 g18 g19 h
    simp only [L0] at h
    refine hr_inLoop ?_
    refine q_seq e9 ?_
    refine q_seq e10 ?_
    refine q_region e11 rfl ?_
    refine q_op (dst := some 5) rfl (fun _ ho => ok_move ho (.tmp rfl)) ?_
    refine q_op (dst := some 6) rfl (fun _ ho => ok_move ho (.tmp rfl)) ?_
    refine q_op (dst := some 7) rfl (fun _ ho => ok_len_str ho rfl tu9 (.tmp rfl)) ?_
    refine q_op (dst := some 8) rfl (fun _ ho => ok_ibin ho (.tmp rfl) (.tmp rfl) rfl) ?_
    refine hr_region_end ?_
    try dsimp only [HAct.put, List.set_cons_zero, List.set_cons_succ]
    rcases ifc h with ⟨hc1, h⟩ | ⟨hc1, h⟩
    · refine q_cond_t e12 (.tmp rfl) (decide_eq_true hc1) ?_
      refine q_skipc e13 ?_
      refine q_seq e15 ?_
      refine q_block e16 ?_
      refine q_region e17 rfl ?_
      refine q_op (dst := some 11) rfl (fun _ ho => ok_move ho (.tmp rfl)) ?_
      refine q_op (dst := some 12) rfl (fun _ ho => ok_move ho (.tmp rfl)) ?_
      refine q_op (dst := some 13) rfl (fun _ ho => ok_move ho (.tmp rfl)) ?_
      obtain ⟨p2, hp2, h⟩ := bindo h
      refine q_op (dst := some 14) rfl (fun _ ho => ok_index_s ho tu9 (.tmp rfl) (.tmp rfl) hp2) ?_
      try dsimp only [HAct.put, List.set_cons_zero, List.set_cons_succ]
      obtain ⟨p3, hp3, h⟩ := bindo h
      refine q_call (dst := some 15) rfl (.func _) (.cons (.tmp rfl) Evs.nil) (HInv.static rollcallref01_Byte.at_ rollcallref01_Byte.body (rollcallref01_Byte.snd  hp3)) ?_
      rintro _ _ ⟨rfl, rfl⟩
      obtain ⟨p4, hp4, h⟩ := leto h
      refine q_op (dst := some 16) rfl (fun _ ho => ok_buildSlice_s (xs := [(.tmp 15)]) el37 ho rfl rfl (by decide) (.cons (.tmp rfl) Evs.nil) rfl rfl hp4) ?_
      obtain ⟨p5, hp5, h⟩ := bindo h
      refine q_op (dst := some 17) rfl (fun _ ho => ok_str_of_bytes (s := (p4.1)) ho tu37 tu5 tu9 (.tmp rfl) hp5) ?_
      obtain ⟨hg6, h⟩ := gd h
      refine q_op (dst := some 18) rfl (fun _ ho => ok_sadd ho (.tmp rfl) (.tmp rfl) hg6) ?_
      try dsimp only [HAct.put, List.set_cons_zero, List.set_cons_succ]
      refine q_op (dst := some 3) rfl (fun _ ho => ok_assign ho (.tmp rfl)) ?_
      refine hr_region_end ?_
      try dsimp only [HAct.put, List.set_cons_zero, List.set_cons_succ]
      refine hr_inBlock ?_
      refine q_region e18 rfl ?_
      refine q_op (dst := some 9) rfl (fun _ ho => ok_move ho (.tmp rfl)) ?_
      refine q_op (dst := some 10) rfl (fun _ ho => ok_ibin ho (.tmp rfl) (.int _ _) rfl) ?_
      refine q_op (dst := some 4) rfl (fun _ ho => ok_assign ho (.tmp rfl)) ?_
      refine hr_region_end ?_
      try dsimp only [HAct.put, List.set_cons_zero, List.set_cons_succ]
      try dsimp only [HAct.put, List.set_cons_zero, List.set_cons_succ]
      exact ih h
    · refine q_cond_f e12 (.tmp rfl) (decide_eq_false hc1) ?_
      refine q_exit e14 rfl ?_
      refine q_seq e19 ?_
      refine q_region e20 rfl ?_
      refine q_op (dst := some 19) rfl (fun _ ho => ok_move ho (.tmp rfl)) ?_
      refine q_op (dst := some 2) rfl (fun _ ho => ok_assign ho (.tmp rfl)) ?_
      refine hr_region_end ?_
      try dsimp only [HAct.put, List.set_cons_zero, List.set_cons_succ]
      cases h
      exact q_ret e21 at_.at_ rfl (res1 rfl rfl) ⟨rfl, rfl⟩
def f (k : Nat) (x0 : (List UInt8)) (S : HS) : Option (((List UInt8)) × HS) :=
  L0 k k x0 ([] : List UInt8) 0 S
theorem snd {k : Nat} {x0 : (List UInt8)} {S : HS}  {p : ((List UInt8)) × HS} (h : f k x0 S = some p) : HCall Try.prog base W0 β0 26 [(.str x0)] S (fun v S1 => v = (.str p.1) ∧ S1 = p.2) := by
  unfold f at h
  refine HCall.of_run at_.at_ body ?_
  show HRun Try.prog base W0 β0 26 none [.code c0] ⟨[(.str x0), .tup [], .tup [], .tup [], .tup [], .tup [], .tup [], .tup [], .tup [], .tup [], .tup [], .tup [], .tup [], .tup [], .tup [], .tup [], .tup [], .tup [], .tup [], .tup []], []⟩ S _
  refine q_seq e0 ?_
  refine q_region e1 rfl ?_
  refine q_op (dst := some 2) rfl (fun _ ho => ok_assign ho (.str _)) ?_
  refine hr_region_end ?_
  try dsimp only [HAct.put, List.set_cons_zero, List.set_cons_succ]
  refine q_seq e2 ?_
  refine q_region e3 rfl ?_
  refine q_op (dst := some 3) rfl (fun _ ho => ok_assign ho (.str _)) ?_
  refine hr_region_end ?_
  try dsimp only [HAct.put, List.set_cons_zero, List.set_cons_succ]
  refine q_seq e4 ?_
  refine q_seq e5 ?_
  refine q_region e6 rfl ?_
  refine q_op (dst := some 4) rfl (fun _ ho => ok_assign ho (.int _ _)) ?_
  refine hr_region_end ?_
  try dsimp only [HAct.put, List.set_cons_zero, List.set_cons_succ]
  refine q_block e7 ?_
  refine q_loop e8 ?_
  try dsimp only [HAct.put, List.set_cons_zero, List.set_cons_succ]
  exact L0_snd  h
end
end rollcallref01_Text
namespace rollcallref01_Same
abbrev id : Nat := 8
theorem at_ : FnAt Try.prog 8 Try.f8 := ⟨Try.func8, by kernel_rfl⟩
noncomputable def c0 : Code := (Try.f8.body).getD .skip
noncomputable def c1 : Code := match c0 with | .seq x _ => x | _ => .skip
noncomputable def c2 : Code := match c0 with | .seq _ x => x | _ => .skip
noncomputable def c3 : Code := match c2 with | .seq x _ => x | _ => .skip
noncomputable def c4 : Code := match c2 with | .seq _ x => x | _ => .skip
theorem e0 : c0 = .seq c1 c2 := by kernel_rfl
noncomputable def r1 : Array Oper := match c1 with | .region _ x _ => x | _ => #[]
theorem e1 : c1 = .region 0 r1 false := by kernel_rfl
theorem e2 : c2 = .seq c3 c4 := by kernel_rfl
noncomputable def r3 : Array Oper := match c3 with | .region _ x _ => x | _ => #[]
theorem e3 : c3 = .region 1 r3 false := by kernel_rfl
theorem e4 : c4 = .ret := by kernel_rfl
theorem body : Try.f8.body = some c0 := by kernel_rfl
section
variable {base : Nat} {W0 : World} {β0 : Bt}
def f (k : Nat) (x0 : (List UInt8)) (x1 : (List UInt8)) (S : HS) : Option ((Bool) × HS) :=
  (Option.bind (rollcallref01_Text.f k x0 S) fun p1 =>
  (Option.bind (rollcallref01_Text.f k x1 p1.2) fun p2 =>
  some ((decide (p1.1 = p2.1)), p2.2)))
theorem snd {k : Nat} {x0 : (List UInt8)} {x1 : (List UInt8)} {S : HS}  {p : (Bool) × HS} (h : f k x0 x1 S = some p) : HCall Try.prog base W0 β0 8 [(.str x0), (.str x1)] S (fun v S1 => v = (.bool p.1) ∧ S1 = p.2) := by
  unfold f at h
  refine HCall.of_run at_.at_ body ?_
  show HRun Try.prog base W0 β0 8 none [.code c0] ⟨[(.str x0), (.str x1), .tup [], .tup [], .tup [], .tup [], .tup [], .tup [], .tup [], .tup []], []⟩ S _
  refine q_seq e0 ?_
  refine q_region e1 rfl ?_
  refine q_op (dst := some 4) rfl (fun _ ho => ok_assign ho (.bool _)) ?_
  refine hr_region_end ?_
  try dsimp only [HAct.put, List.set_cons_zero, List.set_cons_succ]
  refine q_seq e2 ?_
  refine q_region e3 rfl ?_
  refine q_op (dst := some 5) rfl (fun _ ho => ok_move ho (.tmp rfl)) ?_
  obtain ⟨p1, hp1, h⟩ := bindo h
  refine q_call (dst := some 6) rfl (.func _) (.cons (.tmp rfl) Evs.nil) (HInv.static rollcallref01_Text.at_ rollcallref01_Text.body (rollcallref01_Text.snd  hp1)) ?_
  rintro _ _ ⟨rfl, rfl⟩
  refine q_op (dst := some 7) rfl (fun _ ho => ok_move ho (.tmp rfl)) ?_
  obtain ⟨p2, hp2, h⟩ := bindo h
  refine q_call (dst := some 8) rfl (.func _) (.cons (.tmp rfl) Evs.nil) (HInv.static rollcallref01_Text.at_ rollcallref01_Text.body (rollcallref01_Text.snd  hp2)) ?_
  rintro _ _ ⟨rfl, rfl⟩
  try dsimp only [HAct.put, List.set_cons_zero, List.set_cons_succ]
  refine q_op (dst := some 9) rfl (fun _ ho => ok_sbin ho (.tmp rfl) (.tmp rfl) rfl) ?_
  refine q_op (dst := some 4) rfl (fun _ ho => ok_assign ho (.tmp rfl)) ?_
  refine hr_region_end ?_
  try dsimp only [HAct.put, List.set_cons_zero, List.set_cons_succ]
  cases h
  exact q_ret e4 at_.at_ rfl (res1 rfl rfl) ⟨rfl, rfl⟩
end
end rollcallref01_Same
namespace rollcalllaw03_hasTilde
abbrev id : Nat := 9
theorem at_ : FnAt Try.prog 9 Try.f9 := ⟨Try.func9, by kernel_rfl⟩
noncomputable def c0 : Code := (Try.f9.body).getD .skip
noncomputable def c1 : Code := match c0 with | .seq x _ => x | _ => .skip
noncomputable def c2 : Code := match c0 with | .seq _ x => x | _ => .skip
noncomputable def c3 : Code := match c2 with | .seq x _ => x | _ => .skip
noncomputable def c4 : Code := match c3 with | .seq x _ => x | _ => .skip
noncomputable def c5 : Code := match c3 with | .seq _ x => x | _ => .skip
noncomputable def c6 : Code := match c5 with | .block _ x => x | _ => .skip
noncomputable def c7 : Code := match c6 with | .loop x => x | _ => .skip
noncomputable def c8 : Code := match c7 with | .seq x _ => x | _ => .skip
noncomputable def c9 : Code := match c8 with | .seq x _ => x | _ => .skip
noncomputable def c10 : Code := match c8 with | .seq _ x => x | _ => .skip
noncomputable def c11 : Code := match c10 with | .cond _ x _ => x | _ => .skip
noncomputable def c12 : Code := match c10 with | .cond _ _ x => x | _ => .skip
noncomputable def c13 : Code := match c7 with | .seq _ x => x | _ => .skip
noncomputable def c14 : Code := match c13 with | .seq x _ => x | _ => .skip
noncomputable def c15 : Code := match c14 with | .block _ x => x | _ => .skip
noncomputable def c16 : Code := match c15 with | .seq x _ => x | _ => .skip
noncomputable def c17 : Code := match c15 with | .seq _ x => x | _ => .skip
noncomputable def c18 : Code := match c17 with | .cond _ x _ => x | _ => .skip
noncomputable def c19 : Code := match c18 with | .seq x _ => x | _ => .skip
noncomputable def c20 : Code := match c18 with | .seq _ x => x | _ => .skip
noncomputable def c21 : Code := match c17 with | .cond _ _ x => x | _ => .skip
noncomputable def c22 : Code := match c13 with | .seq _ x => x | _ => .skip
noncomputable def c23 : Code := match c2 with | .seq _ x => x | _ => .skip
noncomputable def c24 : Code := match c23 with | .seq x _ => x | _ => .skip
noncomputable def c25 : Code := match c23 with | .seq _ x => x | _ => .skip
theorem e0 : c0 = .seq c1 c2 := by kernel_rfl
noncomputable def r1 : Array Oper := match c1 with | .region _ x _ => x | _ => #[]
theorem e1 : c1 = .region 0 r1 false := by kernel_rfl
theorem e2 : c2 = .seq c3 c23 := by kernel_rfl
theorem e3 : c3 = .seq c4 c5 := by kernel_rfl
noncomputable def r4 : Array Oper := match c4 with | .region _ x _ => x | _ => #[]
theorem e4 : c4 = .region 1 r4 false := by kernel_rfl
theorem e5 : c5 = .block 0 c6 := by kernel_rfl
theorem e6 : c6 = .loop c7 := by kernel_rfl
theorem e7 : c7 = .seq c8 c13 := by kernel_rfl
theorem e8 : c8 = .seq c9 c10 := by kernel_rfl
noncomputable def r9 : Array Oper := match c9 with | .region _ x _ => x | _ => #[]
theorem e9 : c9 = .region 2 r9 false := by kernel_rfl
theorem e10 : c10 = .cond (.tmp 7) c11 c12 := by kernel_rfl
theorem e11 : c11 = .skip := by kernel_rfl
theorem e12 : c12 = .exit 0 := by kernel_rfl
theorem e13 : c13 = .seq c14 c22 := by kernel_rfl
theorem e14 : c14 = .block 1 c15 := by kernel_rfl
theorem e15 : c15 = .seq c16 c17 := by kernel_rfl
noncomputable def r16 : Array Oper := match c16 with | .region _ x _ => x | _ => #[]
theorem e16 : c16 = .region 4 r16 false := by kernel_rfl
theorem e17 : c17 = .cond (.tmp 13) c18 c21 := by kernel_rfl
theorem e18 : c18 = .seq c19 c20 := by kernel_rfl
noncomputable def r19 : Array Oper := match c19 with | .region _ x _ => x | _ => #[]
theorem e19 : c19 = .region 5 r19 false := by kernel_rfl
theorem e20 : c20 = .ret := by kernel_rfl
theorem e21 : c21 = .skip := by kernel_rfl
noncomputable def r22 : Array Oper := match c22 with | .region _ x _ => x | _ => #[]
theorem e22 : c22 = .region 3 r22 false := by kernel_rfl
theorem e23 : c23 = .seq c24 c25 := by kernel_rfl
noncomputable def r24 : Array Oper := match c24 with | .region _ x _ => x | _ => #[]
theorem e24 : c24 = .region 6 r24 false := by kernel_rfl
theorem e25 : c25 = .ret := by kernel_rfl
theorem body : Try.f9.body = some c0 := by kernel_rfl
section
variable {base : Nat} {W0 : World} {β0 : Bt}
def L0 (k : Nat) : Nat → (List UInt8) → Int → Option (Bool)
  | 0, _, _ => none
  | n + 1, y0, y3 =>
    (if y3 < (List.length y0 : Int) then
    (Option.bind (sat y0 y3) fun p2 =>
    (if (UInt8.toNat p2 : Int) = 126 then
    some true else
    (L0 k n) y0 (w64 (y3 + 1)))) else
    some false)
theorem L0_snd {k : Nat}  : ∀ {n : Nat} ⦃y0 : (List UInt8)⦄ ⦃y3 : Int⦄ ⦃S : HS⦄ ⦃p : Bool⦄ ⦃g1 g2 g4 g5 g6 g7 g8 g9 g10 g11 g12 g13 : HV⦄, L0 k n y0 y3 = some p → HRun Try.prog base W0 β0 9 none [.inLoop c7, .inBlock 0, .code c23] ⟨[(.str y0), g1, g2, (.int .i64 y3), g4, g5, g6, g7, g8, g9, g10, g11, g12, g13], []⟩ S (fun v S1 => v = (.bool p) ∧ S1 = S) := by
  intro n
  induction n with
  | zero => intro _ _ _ _ _ _ _ _ _ _ _ _ _ _ _ _ h; cases h
  | succ n ih =>
    intro y0 y3 S p g1 g2 g4 g5 g6 g7 g8 g9 g10 g11 g12 g13 h
    simp only [L0] at h
    refine hr_inLoop ?_
    refine q_seq e7 ?_
    refine q_seq e8 ?_
    refine q_region e9 rfl ?_
    refine q_op (dst := some 4) rfl (fun _ ho => ok_move ho (.tmp rfl)) ?_
    refine q_op (dst := some 5) rfl (fun _ ho => ok_move ho (.tmp rfl)) ?_
    refine q_op (dst := some 6) rfl (fun _ ho => ok_len_str ho rfl tu9 (.tmp rfl)) ?_
    refine q_op (dst := some 7) rfl (fun _ ho => ok_ibin ho (.tmp rfl) (.tmp rfl) rfl) ?_
    refine hr_region_end ?_
    try dsimp only [HAct.put, List.set_cons_zero, List.set_cons_succ]
    rcases ifc h with ⟨hc1, h⟩ | ⟨hc1, h⟩
    · refine q_cond_t e10 (.tmp rfl) (decide_eq_true hc1) ?_
      refine q_skipc e11 ?_
      refine q_seq e13 ?_
      refine q_block e14 ?_
      refine q_seq e15 ?_
      refine q_region e16 rfl ?_
      refine q_op (dst := some 10) rfl (fun _ ho => ok_move ho (.tmp rfl)) ?_
      refine q_op (dst := some 11) rfl (fun _ ho => ok_move ho (.tmp rfl)) ?_
      obtain ⟨p2, hp2, h⟩ := bindo h
      refine q_op (dst := some 12) rfl (fun _ ho => ok_index_s ho tu9 (.tmp rfl) (.tmp rfl) hp2) ?_
      refine q_op (dst := some 13) rfl (fun _ ho => ok_ibin ho (.tmp rfl) (.int _ _) rfl) ?_
      refine hr_region_end ?_
      try dsimp only [HAct.put, List.set_cons_zero, List.set_cons_succ]
      rcases ifc h with ⟨hc3, h⟩ | ⟨hc3, h⟩
      · refine q_cond_t e17 (.tmp rfl) (decide_eq_true hc3) ?_
        refine q_seq e18 ?_
        refine q_region e19 rfl ?_
        refine q_op (dst := some 2) rfl (fun _ ho => ok_assign ho (.bool _)) ?_
        refine hr_region_end ?_
        try dsimp only [HAct.put, List.set_cons_zero, List.set_cons_succ]
        cases h
        exact q_ret e20 at_.at_ rfl (res1 rfl rfl) ⟨rfl, rfl⟩
      · refine q_cond_f e17 (.tmp rfl) (decide_eq_false hc3) ?_
        refine q_skipc e21 ?_
        refine hr_inBlock ?_
        refine q_region e22 rfl ?_
        refine q_op (dst := some 8) rfl (fun _ ho => ok_move ho (.tmp rfl)) ?_
        refine q_op (dst := some 9) rfl (fun _ ho => ok_ibin ho (.tmp rfl) (.int _ _) rfl) ?_
        refine q_op (dst := some 3) rfl (fun _ ho => ok_assign ho (.tmp rfl)) ?_
        refine hr_region_end ?_
        try dsimp only [HAct.put, List.set_cons_zero, List.set_cons_succ]
        try dsimp only [HAct.put, List.set_cons_zero, List.set_cons_succ]
        exact ih h
    · refine q_cond_f e10 (.tmp rfl) (decide_eq_false hc1) ?_
      refine q_exit e12 rfl ?_
      refine q_seq e23 ?_
      refine q_region e24 rfl ?_
      refine q_op (dst := some 2) rfl (fun _ ho => ok_assign ho (.bool _)) ?_
      refine hr_region_end ?_
      try dsimp only [HAct.put, List.set_cons_zero, List.set_cons_succ]
      cases h
      exact q_ret e25 at_.at_ rfl (res1 rfl rfl) ⟨rfl, rfl⟩
def f (k : Nat) (x0 : (List UInt8)) : Option (Bool) :=
  L0 k k x0 0
theorem snd {k : Nat} {x0 : (List UInt8)} {S : HS}  {p : Bool} (h : f k x0 = some p) : HCall Try.prog base W0 β0 9 [(.str x0)] S (fun v S1 => v = (.bool p) ∧ S1 = S) := by
  unfold f at h
  refine HCall.of_run at_.at_ body ?_
  show HRun Try.prog base W0 β0 9 none [.code c0] ⟨[(.str x0), .tup [], .tup [], .tup [], .tup [], .tup [], .tup [], .tup [], .tup [], .tup [], .tup [], .tup [], .tup [], .tup []], []⟩ S _
  refine q_seq e0 ?_
  refine q_region e1 rfl ?_
  refine q_op (dst := some 2) rfl (fun _ ho => ok_assign ho (.bool _)) ?_
  refine hr_region_end ?_
  try dsimp only [HAct.put, List.set_cons_zero, List.set_cons_succ]
  refine q_seq e2 ?_
  refine q_seq e3 ?_
  refine q_region e4 rfl ?_
  refine q_op (dst := some 3) rfl (fun _ ho => ok_assign ho (.int _ _)) ?_
  refine hr_region_end ?_
  try dsimp only [HAct.put, List.set_cons_zero, List.set_cons_succ]
  refine q_block e5 ?_
  refine q_loop e6 ?_
  try dsimp only [HAct.put, List.set_cons_zero, List.set_cons_succ]
  exact L0_snd  h
end
end rollcalllaw03_hasTilde
namespace rollcalllaw03_ValidAlike
abbrev id : Nat := 3
theorem at_ : FnAt Try.prog 3 Try.f3 := ⟨Try.func3, by kernel_rfl⟩
noncomputable def c0 : Code := (Try.f3.body).getD .skip
noncomputable def c1 : Code := match c0 with | .seq x _ => x | _ => .skip
noncomputable def c2 : Code := match c0 with | .seq _ x => x | _ => .skip
noncomputable def c3 : Code := match c2 with | .seq x _ => x | _ => .skip
noncomputable def c4 : Code := match c3 with | .seq x _ => x | _ => .skip
noncomputable def c5 : Code := match c3 with | .seq _ x => x | _ => .skip
noncomputable def c6 : Code := match c5 with | .cond _ x _ => x | _ => .skip
noncomputable def c7 : Code := match c6 with | .seq x _ => x | _ => .skip
noncomputable def c8 : Code := match c6 with | .seq _ x => x | _ => .skip
noncomputable def c9 : Code := match c5 with | .cond _ _ x => x | _ => .skip
noncomputable def c10 : Code := match c2 with | .seq _ x => x | _ => .skip
noncomputable def c11 : Code := match c10 with | .seq x _ => x | _ => .skip
noncomputable def c12 : Code := match c11 with | .seq x _ => x | _ => .skip
noncomputable def c13 : Code := match c11 with | .seq _ x => x | _ => .skip
noncomputable def c14 : Code := match c13 with | .cond _ x _ => x | _ => .skip
noncomputable def c15 : Code := match c14 with | .seq x _ => x | _ => .skip
noncomputable def c16 : Code := match c14 with | .seq _ x => x | _ => .skip
noncomputable def c17 : Code := match c13 with | .cond _ _ x => x | _ => .skip
noncomputable def c18 : Code := match c10 with | .seq _ x => x | _ => .skip
noncomputable def c19 : Code := match c18 with | .seq x _ => x | _ => .skip
noncomputable def c20 : Code := match c19 with | .seq x _ => x | _ => .skip
noncomputable def c21 : Code := match c19 with | .seq _ x => x | _ => .skip
noncomputable def c22 : Code := match c21 with | .cond _ x _ => x | _ => .skip
noncomputable def c23 : Code := match c22 with | .seq x _ => x | _ => .skip
noncomputable def c24 : Code := match c22 with | .seq _ x => x | _ => .skip
noncomputable def c25 : Code := match c21 with | .cond _ _ x => x | _ => .skip
noncomputable def c26 : Code := match c18 with | .seq _ x => x | _ => .skip
noncomputable def c27 : Code := match c26 with | .seq x _ => x | _ => .skip
noncomputable def c28 : Code := match c26 with | .seq _ x => x | _ => .skip
theorem e0 : c0 = .seq c1 c2 := by kernel_rfl
noncomputable def r1 : Array Oper := match c1 with | .region _ x _ => x | _ => #[]
theorem e1 : c1 = .region 0 r1 false := by kernel_rfl
theorem e2 : c2 = .seq c3 c10 := by kernel_rfl
theorem e3 : c3 = .seq c4 c5 := by kernel_rfl
noncomputable def r4 : Array Oper := match c4 with | .region _ x _ => x | _ => #[]
theorem e4 : c4 = .region 1 r4 false := by kernel_rfl
theorem e5 : c5 = .cond (.tmp 6) c6 c9 := by kernel_rfl
theorem e6 : c6 = .seq c7 c8 := by kernel_rfl
noncomputable def r7 : Array Oper := match c7 with | .region _ x _ => x | _ => #[]
theorem e7 : c7 = .region 2 r7 false := by kernel_rfl
theorem e8 : c8 = .ret := by kernel_rfl
theorem e9 : c9 = .skip := by kernel_rfl
theorem e10 : c10 = .seq c11 c18 := by kernel_rfl
theorem e11 : c11 = .seq c12 c13 := by kernel_rfl
noncomputable def r12 : Array Oper := match c12 with | .region _ x _ => x | _ => #[]
theorem e12 : c12 = .region 3 r12 false := by kernel_rfl
theorem e13 : c13 = .cond (.tmp 20) c14 c17 := by kernel_rfl
theorem e14 : c14 = .seq c15 c16 := by kernel_rfl
noncomputable def r15 : Array Oper := match c15 with | .region _ x _ => x | _ => #[]
theorem e15 : c15 = .region 4 r15 false := by kernel_rfl
theorem e16 : c16 = .ret := by kernel_rfl
theorem e17 : c17 = .skip := by kernel_rfl
theorem e18 : c18 = .seq c19 c26 := by kernel_rfl
theorem e19 : c19 = .seq c20 c21 := by kernel_rfl
noncomputable def r20 : Array Oper := match c20 with | .region _ x _ => x | _ => #[]
theorem e20 : c20 = .region 5 r20 false := by kernel_rfl
theorem e21 : c21 = .cond (.tmp 26) c22 c25 := by kernel_rfl
theorem e22 : c22 = .seq c23 c24 := by kernel_rfl
noncomputable def r23 : Array Oper := match c23 with | .region _ x _ => x | _ => #[]
theorem e23 : c23 = .region 6 r23 false := by kernel_rfl
theorem e24 : c24 = .ret := by kernel_rfl
theorem e25 : c25 = .skip := by kernel_rfl
theorem e26 : c26 = .seq c27 c28 := by kernel_rfl
noncomputable def r27 : Array Oper := match c27 with | .region _ x _ => x | _ => #[]
theorem e27 : c27 = .region 7 r27 false := by kernel_rfl
theorem e28 : c28 = .ret := by kernel_rfl
theorem body : Try.f3.body = some c0 := by kernel_rfl
section
variable {base : Nat} {W0 : World} {β0 : Bt}
def J3 (k : Nat) (y34 : Bool) (S : HS) : Option ((Bool) × HS) :=
  some (y34, S)
theorem J3_snd {k : Nat}  {y34 : Bool} {S : HS} {p : (Bool) × HS} {g0 g1 g2 g3 g4 g5 g6 g7 g8 g9 g10 g11 g12 g13 g14 g15 g16 g17 g18 g19 g20 g21 g22 g23 g24 g25 g26 g27 g28 g29 g30 g31 g32 g33 g35 g36 g37 g38 g39 g40 g41 g42 g43 g44 g45 g46 g47 g48 : HV} (h : J3 k y34 S = some p) : HRun Try.prog base W0 β0 3 none [.inRegion r23 [8], .code c24, .code c26] ⟨[g0, g1, g2, g3, g4, g5, g6, g7, g8, g9, g10, g11, g12, g13, g14, g15, g16, g17, g18, g19, g20, g21, g22, g23, g24, g25, g26, g27, g28, g29, g30, g31, g32, g33, (.bool y34), g35, g36, g37, g38, g39, g40, g41, g42, g43, g44, g45, g46, g47, g48], []⟩ S (fun v S1 => v = (.bool p.1) ∧ S1 = p.2) := by
  unfold J3 at h
  refine q_op (dst := some 4) rfl (fun _ ho => ok_assign ho (.tmp rfl)) ?_
  refine hr_region_end ?_
  try dsimp only [HAct.put, List.set_cons_zero, List.set_cons_succ]
  cases h
  exact q_ret e24 at_.at_ rfl (res1 rfl rfl) ⟨rfl, rfl⟩
def J5 (k : Nat) (y48 : Bool) (S : HS) : Option ((Bool) × HS) :=
  some (y48, S)
theorem J5_snd {k : Nat}  {y48 : Bool} {S : HS} {p : (Bool) × HS} {g0 g1 g2 g3 g4 g5 g6 g7 g8 g9 g10 g11 g12 g13 g14 g15 g16 g17 g18 g19 g20 g21 g22 g23 g24 g25 g26 g27 g28 g29 g30 g31 g32 g33 g34 g35 g36 g37 g38 g39 g40 g41 g42 g43 g44 g45 g46 g47 : HV} (h : J5 k y48 S = some p) : HRun Try.prog base W0 β0 3 none [.inRegion r27 [14], .code c28] ⟨[g0, g1, g2, g3, g4, g5, g6, g7, g8, g9, g10, g11, g12, g13, g14, g15, g16, g17, g18, g19, g20, g21, g22, g23, g24, g25, g26, g27, g28, g29, g30, g31, g32, g33, g34, g35, g36, g37, g38, g39, g40, g41, g42, g43, g44, g45, g46, g47, (.bool y48)], []⟩ S (fun v S1 => v = (.bool p.1) ∧ S1 = p.2) := by
  unfold J5 at h
  refine q_op (dst := some 4) rfl (fun _ ho => ok_assign ho (.tmp rfl)) ?_
  refine hr_region_end ?_
  try dsimp only [HAct.put, List.set_cons_zero, List.set_cons_succ]
  cases h
  exact q_ret e28 at_.at_ rfl (res1 rfl rfl) ⟨rfl, rfl⟩
def J4 (k : Nat) (y40 : Bool) (y46 : Bool) (S : HS) : Option ((Bool) × HS) :=
  (if y40 = true then
  J5 k (!y46) S else
  J5 k false S)
theorem J4_snd {k : Nat}  {y40 : Bool} {y46 : Bool} {S : HS} {p : (Bool) × HS} {g0 g1 g2 g3 g4 g5 g6 g7 g8 g9 g10 g11 g12 g13 g14 g15 g16 g17 g18 g19 g20 g21 g22 g23 g24 g25 g26 g27 g28 g29 g30 g31 g32 g33 g34 g35 g36 g37 g38 g39 g41 g42 g43 g44 g45 g47 g48 : HV} (h : J4 k y40 y46 S = some p) : HRun Try.prog base W0 β0 3 none [.inRegion r27 [12, 13, 14], .code c28] ⟨[g0, g1, g2, g3, g4, g5, g6, g7, g8, g9, g10, g11, g12, g13, g14, g15, g16, g17, g18, g19, g20, g21, g22, g23, g24, g25, g26, g27, g28, g29, g30, g31, g32, g33, g34, g35, g36, g37, g38, g39, (.bool y40), g41, g42, g43, g44, g45, (.bool y46), g47, g48], []⟩ S (fun v S1 => v = (.bool p.1) ∧ S1 = p.2) := by
  unfold J4 at h
  rcases ifc h with ⟨hc18, h⟩ | ⟨hc18, h⟩
  · refine q_op_g (t := 40) (dst := some 47) rfl rfl rfl hc18 (fun _ ho => ok_not ho (.tmp rfl)) ?_
    refine q_op (dst := some 48) rfl (fun _ ho => ok_pick_tt ho (.tmp rfl) hc18 (.tmp rfl)) ?_
    try dsimp only [HAct.put, List.set_cons_zero, List.set_cons_succ]
    exact J5_snd  h
  · refine q_skip (dst := some 47) (t := 40) rfl rfl rfl (bfalse hc18) ?_
    refine q_op (dst := some 48) rfl (fun _ ho => ok_pick_ff ho (.tmp rfl) (bfalse hc18) (.bool _)) ?_
    try dsimp only [HAct.put, List.set_cons_zero, List.set_cons_succ]
    exact J5_snd  h
def J2 (k : Nat) (y0 : (List UInt8)) (y1 : (List UInt8)) (y26 : Bool) (S : HS) : Option ((Bool) × HS) :=
  (if y26 = true then
  (Option.bind (valid_Nick.f k y0 S) fun p9 =>
  (if (!p9.1) = true then
  J3 k true p9.2 else
  (Option.bind (rollcalllaw03_hasTilde.f k y0) fun p11 =>
  J3 k (!p11) p9.2))) else
  (Option.bind (valid_Nick.f k y0 S) fun p12 =>
  (Option.bind (valid_Nick.f k y1 p12.2) fun p13 =>
  (if (p12.1 == p13.1) = true then
  (Option.bind (valid_Nick.f k y0 p13.2) fun p15 =>
  (if p15.1 = true then
  (Option.bind (valid_Channel.f k y0 p15.2) fun p17 =>
  J4 k (p12.1 == p13.1) p17.1 p17.2) else
  J4 k (p12.1 == p13.1) false p15.2)) else
  J5 k false p13.2))))
theorem J2_snd {k : Nat}  {y0 : (List UInt8)} {y1 : (List UInt8)} {y26 : Bool} {S : HS} {p : (Bool) × HS} {g2 g3 g4 g5 g6 g7 g8 g9 g10 g11 g12 g13 g14 g15 g16 g17 g18 g19 g20 g21 g22 g23 g24 g25 g27 g28 g29 g30 g31 g32 g33 g34 g35 g36 g37 g38 g39 g40 g41 g42 g43 g44 g45 g46 g47 g48 : HV} (h : J2 k y0 y1 y26 S = some p) : HRun Try.prog base W0 β0 3 none [.code c21, .code c26] ⟨[(.str y0), (.str y1), g2, g3, g4, g5, g6, g7, g8, g9, g10, g11, g12, g13, g14, g15, g16, g17, g18, g19, g20, g21, g22, g23, g24, g25, (.bool y26), g27, g28, g29, g30, g31, g32, g33, g34, g35, g36, g37, g38, g39, g40, g41, g42, g43, g44, g45, g46, g47, g48], []⟩ S (fun v S1 => v = (.bool p.1) ∧ S1 = p.2) := by
  unfold J2 at h
  rcases ifc h with ⟨hc8, h⟩ | ⟨hc8, h⟩
  · refine q_cond_t e21 (.tmp rfl) hc8 ?_
    refine q_seq e22 ?_
    refine q_region e23 rfl ?_
    refine q_op (dst := some 27) rfl (fun _ ho => ok_move ho (.tmp rfl)) ?_
    obtain ⟨p9, hp9, h⟩ := bindo h
    refine q_call (dst := some 28) rfl (.func _) (.cons (.tmp rfl) Evs.nil) (HInv.static valid_Nick.at_ valid_Nick.body (valid_Nick.snd  hp9)) ?_
    rintro _ _ ⟨rfl, rfl⟩
    refine q_op (dst := some 29) rfl (fun _ ho => ok_not ho (.tmp rfl)) ?_
    refine q_op (dst := some 30) rfl (fun _ ho => ok_move ho (.tmp rfl)) ?_
    try dsimp only [HAct.put, List.set_cons_zero, List.set_cons_succ]
    rcases ifc h with ⟨hc10, h⟩ | ⟨hc10, h⟩
    · refine q_skip (dst := some 31) (t := 30) rfl rfl rfl hc10 ?_
      refine q_skip (dst := some 32) (t := 30) rfl rfl rfl hc10 ?_
      refine q_skip (dst := some 33) (t := 30) rfl rfl rfl hc10 ?_
      refine q_op (dst := some 34) rfl (fun _ ho => ok_pick_tt ho (.tmp rfl) hc10 (.bool _)) ?_
      try dsimp only [HAct.put, List.set_cons_zero, List.set_cons_succ]
      try dsimp only [HAct.put, List.set_cons_zero, List.set_cons_succ]
      exact J3_snd  h
    · refine q_op_g (t := 30) (dst := some 31) rfl rfl rfl (bfalse hc10) (fun _ ho => ok_move ho (.tmp rfl)) ?_
      obtain ⟨p11, hp11, h⟩ := bindo h
      refine q_call_g (t := 30) (dst := some 32) rfl rfl rfl (bfalse hc10) (.func _) (.cons (.tmp rfl) Evs.nil) (HInv.static rollcalllaw03_hasTilde.at_ rollcalllaw03_hasTilde.body (rollcalllaw03_hasTilde.snd  hp11)) ?_
      rintro _ _ ⟨rfl, rfl⟩
      refine q_op_g (t := 30) (dst := some 33) rfl rfl rfl (bfalse hc10) (fun _ ho => ok_not ho (.tmp rfl)) ?_
      refine q_op (dst := some 34) rfl (fun _ ho => ok_pick_ff ho (.tmp rfl) (bfalse hc10) (.tmp rfl)) ?_
      try dsimp only [HAct.put, List.set_cons_zero, List.set_cons_succ]
      try dsimp only [HAct.put, List.set_cons_zero, List.set_cons_succ]
      exact J3_snd  h
  · refine q_cond_f e21 (.tmp rfl) (bfalse hc8) ?_
    refine q_skipc e25 ?_
    refine q_seq e26 ?_
    refine q_region e27 rfl ?_
    refine q_op (dst := some 35) rfl (fun _ ho => ok_move ho (.tmp rfl)) ?_
    obtain ⟨p12, hp12, h⟩ := bindo h
    refine q_call (dst := some 36) rfl (.func _) (.cons (.tmp rfl) Evs.nil) (HInv.static valid_Nick.at_ valid_Nick.body (valid_Nick.snd  hp12)) ?_
    rintro _ _ ⟨rfl, rfl⟩
    refine q_op (dst := some 37) rfl (fun _ ho => ok_move ho (.tmp rfl)) ?_
    obtain ⟨p13, hp13, h⟩ := bindo h
    refine q_call (dst := some 38) rfl (.func _) (.cons (.tmp rfl) Evs.nil) (HInv.static valid_Nick.at_ valid_Nick.body (valid_Nick.snd  hp13)) ?_
    rintro _ _ ⟨rfl, rfl⟩
    try dsimp only [HAct.put, List.set_cons_zero, List.set_cons_succ]
    refine q_op (dst := some 39) rfl (fun _ ho => ok_beq ho tu4 (.inl ⟨rfl, rfl⟩) (.tmp rfl) (.tmp rfl)) ?_
    refine q_op (dst := some 40) rfl (fun _ ho => ok_move ho (.tmp rfl)) ?_
    rcases ifc h with ⟨hc14, h⟩ | ⟨hc14, h⟩
    · refine q_op_g (t := 40) (dst := some 41) rfl rfl rfl hc14 (fun _ ho => ok_move ho (.tmp rfl)) ?_
      obtain ⟨p15, hp15, h⟩ := bindo h
      refine q_call_g (t := 40) (dst := some 42) rfl rfl rfl hc14 (.func _) (.cons (.tmp rfl) Evs.nil) (HInv.static valid_Nick.at_ valid_Nick.body (valid_Nick.snd  hp15)) ?_
      rintro _ _ ⟨rfl, rfl⟩
      try dsimp only [HAct.put, List.set_cons_zero, List.set_cons_succ]
      refine q_op_g (t := 40) (dst := some 43) rfl rfl rfl hc14 (fun _ ho => ok_move ho (.tmp rfl)) ?_
      rcases ifc h with ⟨hc16, h⟩ | ⟨hc16, h⟩
      · refine q_op_g (t := 43) (dst := some 44) rfl rfl rfl hc16 (fun _ ho => ok_move ho (.tmp rfl)) ?_
        obtain ⟨p17, hp17, h⟩ := bindo h
        refine q_call_g (t := 43) (dst := some 45) rfl rfl rfl hc16 (.func _) (.cons (.tmp rfl) Evs.nil) (HInv.static valid_Channel.at_ valid_Channel.body (valid_Channel.snd  hp17)) ?_
        rintro _ _ ⟨rfl, rfl⟩
        refine q_op_g (t := 40) (dst := some 46) rfl rfl rfl hc14 (fun _ ho => ok_pick_tt ho (.tmp rfl) hc16 (.tmp rfl)) ?_
        try dsimp only [HAct.put, List.set_cons_zero, List.set_cons_succ]
        try dsimp only [HAct.put, List.set_cons_zero, List.set_cons_succ]
        exact J4_snd  h
      · refine q_skip (dst := some 44) (t := 43) rfl rfl rfl (bfalse hc16) ?_
        refine q_skip (dst := some 45) (t := 43) rfl rfl rfl (bfalse hc16) ?_
        refine q_op_g (t := 40) (dst := some 46) rfl rfl rfl hc14 (fun _ ho => ok_pick_ff ho (.tmp rfl) (bfalse hc16) (.bool _)) ?_
        try dsimp only [HAct.put, List.set_cons_zero, List.set_cons_succ]
        try dsimp only [HAct.put, List.set_cons_zero, List.set_cons_succ]
        exact J4_snd  h
    · refine q_skip (dst := some 41) (t := 40) rfl rfl rfl (bfalse hc14) ?_
      refine q_skip (dst := some 42) (t := 40) rfl rfl rfl (bfalse hc14) ?_
      try dsimp only [HAct.put, List.set_cons_zero, List.set_cons_succ]
      refine q_skip (dst := some 43) (t := 40) rfl rfl rfl (bfalse hc14) ?_
      refine q_skip_u (dst := some 44) (t := 43) rfl rfl rfl ?_
      refine q_skip_u (dst := some 45) (t := 43) rfl rfl rfl ?_
      refine q_skip (dst := some 46) (t := 40) rfl rfl rfl (bfalse hc14) ?_
      try dsimp only [HAct.put, List.set_cons_zero, List.set_cons_succ]
      refine q_skip (dst := some 47) (t := 40) rfl rfl rfl (bfalse hc14) ?_
      refine q_op (dst := some 48) rfl (fun _ ho => ok_pick_ff ho (.tmp rfl) (bfalse hc14) (.bool _)) ?_
      try dsimp only [HAct.put, List.set_cons_zero, List.set_cons_succ]
      exact J5_snd  h
def J1 (k : Nat) (y0 : (List UInt8)) (y1 : (List UInt8)) (y20 : Bool) (S : HS) : Option ((Bool) × HS) :=
  (if y20 = true then
  some (true, S) else
  (Option.bind (rollcalllaw03_hasTilde.f k y0) fun p6 =>
  (if p6 = true then
  J2 k y0 y1 true S else
  (Option.bind (rollcalllaw03_hasTilde.f k y1) fun p19 =>
  J2 k y0 y1 p19 S))))
theorem J1_snd {k : Nat}  {y0 : (List UInt8)} {y1 : (List UInt8)} {y20 : Bool} {S : HS} {p : (Bool) × HS} {g2 g3 g4 g5 g6 g7 g8 g9 g10 g11 g12 g13 g14 g15 g16 g17 g18 g19 g21 g22 g23 g24 g25 g26 g27 g28 g29 g30 g31 g32 g33 g34 g35 g36 g37 g38 g39 g40 g41 g42 g43 g44 g45 g46 g47 g48 : HV} (h : J1 k y0 y1 y20 S = some p) : HRun Try.prog base W0 β0 3 none [.code c13, .code c18] ⟨[(.str y0), (.str y1), g2, g3, g4, g5, g6, g7, g8, g9, g10, g11, g12, g13, g14, g15, g16, g17, g18, g19, (.bool y20), g21, g22, g23, g24, g25, g26, g27, g28, g29, g30, g31, g32, g33, g34, g35, g36, g37, g38, g39, g40, g41, g42, g43, g44, g45, g46, g47, g48], []⟩ S (fun v S1 => v = (.bool p.1) ∧ S1 = p.2) := by
  unfold J1 at h
  rcases ifc h with ⟨hc5, h⟩ | ⟨hc5, h⟩
  · refine q_cond_t e13 (.tmp rfl) hc5 ?_
    refine q_seq e14 ?_
    refine q_region e15 rfl ?_
    refine q_op (dst := some 4) rfl (fun _ ho => ok_assign ho (.bool _)) ?_
    refine hr_region_end ?_
    try dsimp only [HAct.put, List.set_cons_zero, List.set_cons_succ]
    cases h
    exact q_ret e16 at_.at_ rfl (res1 rfl rfl) ⟨rfl, rfl⟩
  · refine q_cond_f e13 (.tmp rfl) (bfalse hc5) ?_
    refine q_skipc e17 ?_
    refine q_seq e18 ?_
    refine q_seq e19 ?_
    refine q_region e20 rfl ?_
    refine q_op (dst := some 21) rfl (fun _ ho => ok_move ho (.tmp rfl)) ?_
    obtain ⟨p6, hp6, h⟩ := bindo h
    refine q_call (dst := some 22) rfl (.func _) (.cons (.tmp rfl) Evs.nil) (HInv.static rollcalllaw03_hasTilde.at_ rollcalllaw03_hasTilde.body (rollcalllaw03_hasTilde.snd  hp6)) ?_
    rintro _ _ ⟨rfl, rfl⟩
    refine q_op (dst := some 23) rfl (fun _ ho => ok_move ho (.tmp rfl)) ?_
    rcases ifc h with ⟨hc7, h⟩ | ⟨hc7, h⟩
    · refine q_skip (dst := some 24) (t := 23) rfl rfl rfl hc7 ?_
      try dsimp only [HAct.put, List.set_cons_zero, List.set_cons_succ]
      refine q_skip (dst := some 25) (t := 23) rfl rfl rfl hc7 ?_
      refine q_op (dst := some 26) rfl (fun _ ho => ok_pick_tt ho (.tmp rfl) hc7 (.bool _)) ?_
      refine hr_region_end ?_
      try dsimp only [HAct.put, List.set_cons_zero, List.set_cons_succ]
      try dsimp only [HAct.put, List.set_cons_zero, List.set_cons_succ]
      exact J2_snd  h
    · refine q_op_g (t := 23) (dst := some 24) rfl rfl rfl (bfalse hc7) (fun _ ho => ok_move ho (.tmp rfl)) ?_
      try dsimp only [HAct.put, List.set_cons_zero, List.set_cons_succ]
      obtain ⟨p19, hp19, h⟩ := bindo h
      refine q_call_g (t := 23) (dst := some 25) rfl rfl rfl (bfalse hc7) (.func _) (.cons (.tmp rfl) Evs.nil) (HInv.static rollcalllaw03_hasTilde.at_ rollcalllaw03_hasTilde.body (rollcalllaw03_hasTilde.snd  hp19)) ?_
      rintro _ _ ⟨rfl, rfl⟩
      refine q_op (dst := some 26) rfl (fun _ ho => ok_pick_ff ho (.tmp rfl) (bfalse hc7) (.tmp rfl)) ?_
      refine hr_region_end ?_
      try dsimp only [HAct.put, List.set_cons_zero, List.set_cons_succ]
      try dsimp only [HAct.put, List.set_cons_zero, List.set_cons_succ]
      exact J2_snd  h
def J0 (k : Nat) (y0 : (List UInt8)) (y1 : (List UInt8)) (y14 : Bool) (S : HS) : Option ((Bool) × HS) :=
  (if y14 = true then
  J1 k y0 y1 true S else
  (Option.bind (rollcallref01_Same.f k y0 y1 S) fun p20 =>
  J1 k y0 y1 (!p20.1) p20.2))
theorem J0_snd {k : Nat}  {y0 : (List UInt8)} {y1 : (List UInt8)} {y14 : Bool} {S : HS} {p : (Bool) × HS} {g2 g3 g4 g5 g6 g7 g8 g9 g10 g11 g12 g13 g15 g16 g17 g18 g19 g20 g21 g22 g23 g24 g25 g26 g27 g28 g29 g30 g31 g32 g33 g34 g35 g36 g37 g38 g39 g40 g41 g42 g43 g44 g45 g46 g47 g48 : HV} (h : J0 k y0 y1 y14 S = some p) : HRun Try.prog base W0 β0 3 none [.inRegion r12 [8, 9, 10, 11, 12, 13], .code c13, .code c18] ⟨[(.str y0), (.str y1), g2, g3, g4, g5, g6, g7, g8, g9, g10, g11, g12, g13, (.bool y14), g15, g16, g17, g18, g19, g20, g21, g22, g23, g24, g25, g26, g27, g28, g29, g30, g31, g32, g33, g34, g35, g36, g37, g38, g39, g40, g41, g42, g43, g44, g45, g46, g47, g48], []⟩ S (fun v S1 => v = (.bool p.1) ∧ S1 = p.2) := by
  unfold J0 at h
  refine q_op (dst := some 15) rfl (fun _ ho => ok_move ho (.tmp rfl)) ?_
  rcases ifc h with ⟨hc4, h⟩ | ⟨hc4, h⟩
  · refine q_skip (dst := some 16) (t := 15) rfl rfl rfl hc4 ?_
    refine q_skip (dst := some 17) (t := 15) rfl rfl rfl hc4 ?_
    refine q_skip (dst := some 18) (t := 15) rfl rfl rfl hc4 ?_
    try dsimp only [HAct.put, List.set_cons_zero, List.set_cons_succ]
    refine q_skip (dst := some 19) (t := 15) rfl rfl rfl hc4 ?_
    refine q_op (dst := some 20) rfl (fun _ ho => ok_pick_tt ho (.tmp rfl) hc4 (.bool _)) ?_
    refine hr_region_end ?_
    try dsimp only [HAct.put, List.set_cons_zero, List.set_cons_succ]
    try dsimp only [HAct.put, List.set_cons_zero, List.set_cons_succ]
    exact J1_snd  h
  · refine q_op_g (t := 15) (dst := some 16) rfl rfl rfl (bfalse hc4) (fun _ ho => ok_move ho (.tmp rfl)) ?_
    refine q_op_g (t := 15) (dst := some 17) rfl rfl rfl (bfalse hc4) (fun _ ho => ok_move ho (.tmp rfl)) ?_
    obtain ⟨p20, hp20, h⟩ := bindo h
    refine q_call_g (t := 15) (dst := some 18) rfl rfl rfl (bfalse hc4) (.func _) (.cons (.tmp rfl) (.cons (.tmp rfl) Evs.nil)) (HInv.static rollcallref01_Same.at_ rollcallref01_Same.body (rollcallref01_Same.snd  hp20)) ?_
    rintro _ _ ⟨rfl, rfl⟩
    try dsimp only [HAct.put, List.set_cons_zero, List.set_cons_succ]
    refine q_op_g (t := 15) (dst := some 19) rfl rfl rfl (bfalse hc4) (fun _ ho => ok_not ho (.tmp rfl)) ?_
    refine q_op (dst := some 20) rfl (fun _ ho => ok_pick_ff ho (.tmp rfl) (bfalse hc4) (.tmp rfl)) ?_
    refine hr_region_end ?_
    try dsimp only [HAct.put, List.set_cons_zero, List.set_cons_succ]
    try dsimp only [HAct.put, List.set_cons_zero, List.set_cons_succ]
    exact J1_snd  h
def f (k : Nat) (x0 : (List UInt8)) (x1 : (List UInt8)) (S : HS) : Option ((Bool) × HS) :=
  (Option.bind (rollcalllaw03_awake.f k S) fun p1 =>
  (if (!p1.1) = true then
  some (false, p1.2) else
  (if (List.length x0 : Int) > 100 then
  J0 k x0 x1 true p1.2 else
  J0 k x0 x1 (decide ((List.length x1 : Int) > 100)) p1.2)))
theorem snd {k : Nat} {x0 : (List UInt8)} {x1 : (List UInt8)} {S : HS}  {p : (Bool) × HS} (h : f k x0 x1 S = some p) : HCall Try.prog base W0 β0 3 [(.str x0), (.str x1)] S (fun v S1 => v = (.bool p.1) ∧ S1 = p.2) := by
  unfold f at h
  refine HCall.of_run at_.at_ body ?_
  show HRun Try.prog base W0 β0 3 none [.code c0] ⟨[(.str x0), (.str x1), .tup [], .tup [], .tup [], .tup [], .tup [], .tup [], .tup [], .tup [], .tup [], .tup [], .tup [], .tup [], .tup [], .tup [], .tup [], .tup [], .tup [], .tup [], .tup [], .tup [], .tup [], .tup [], .tup [], .tup [], .tup [], .tup [], .tup [], .tup [], .tup [], .tup [], .tup [], .tup [], .tup [], .tup [], .tup [], .tup [], .tup [], .tup [], .tup [], .tup [], .tup [], .tup [], .tup [], .tup [], .tup [], .tup [], .tup []], []⟩ S _
  refine q_seq e0 ?_
  refine q_region e1 rfl ?_
  refine q_op (dst := some 4) rfl (fun _ ho => ok_assign ho (.bool _)) ?_
  refine hr_region_end ?_
  try dsimp only [HAct.put, List.set_cons_zero, List.set_cons_succ]
  refine q_seq e2 ?_
  refine q_seq e3 ?_
  refine q_region e4 rfl ?_
  obtain ⟨p1, hp1, h⟩ := bindo h
  refine q_call (dst := some 5) rfl (.func _) Evs.nil (HInv.static rollcalllaw03_awake.at_ rollcalllaw03_awake.body (rollcalllaw03_awake.snd  hp1)) ?_
  rintro _ _ ⟨rfl, rfl⟩
  refine q_op (dst := some 6) rfl (fun _ ho => ok_not ho (.tmp rfl)) ?_
  refine hr_region_end ?_
  try dsimp only [HAct.put, List.set_cons_zero, List.set_cons_succ]
  rcases ifc h with ⟨hc2, h⟩ | ⟨hc2, h⟩
  · refine q_cond_t e5 (.tmp rfl) hc2 ?_
    refine q_seq e6 ?_
    refine q_region e7 rfl ?_
    refine q_op (dst := some 4) rfl (fun _ ho => ok_assign ho (.bool _)) ?_
    refine hr_region_end ?_
    try dsimp only [HAct.put, List.set_cons_zero, List.set_cons_succ]
    cases h
    exact q_ret e8 at_.at_ rfl (res1 rfl rfl) ⟨rfl, rfl⟩
  · refine q_cond_f e5 (.tmp rfl) (bfalse hc2) ?_
    refine q_skipc e9 ?_
    refine q_seq e10 ?_
    refine q_seq e11 ?_
    refine q_region e12 rfl ?_
    refine q_op (dst := some 7) rfl (fun _ ho => ok_move ho (.tmp rfl)) ?_
    refine q_op (dst := some 8) rfl (fun _ ho => ok_len_str ho rfl tu9 (.tmp rfl)) ?_
    refine q_op (dst := some 9) rfl (fun _ ho => ok_ibin ho (.tmp rfl) (.int _ _) rfl) ?_
    refine q_op (dst := some 10) rfl (fun _ ho => ok_move ho (.tmp rfl)) ?_
    try dsimp only [HAct.put, List.set_cons_zero, List.set_cons_succ]
    rcases ifc h with ⟨hc3, h⟩ | ⟨hc3, h⟩
    · refine q_skip (dst := some 11) (t := 10) rfl rfl rfl (decide_eq_true hc3) ?_
      refine q_skip (dst := some 12) (t := 10) rfl rfl rfl (decide_eq_true hc3) ?_
      refine q_skip (dst := some 13) (t := 10) rfl rfl rfl (decide_eq_true hc3) ?_
      refine q_op (dst := some 14) rfl (fun _ ho => ok_pick_tt ho (.tmp rfl) (decide_eq_true hc3) (.bool _)) ?_
      try dsimp only [HAct.put, List.set_cons_zero, List.set_cons_succ]
      try dsimp only [HAct.put, List.set_cons_zero, List.set_cons_succ]
      exact J0_snd  h
    · refine q_op_g (t := 10) (dst := some 11) rfl rfl rfl (decide_eq_false hc3) (fun _ ho => ok_move ho (.tmp rfl)) ?_
      refine q_op_g (t := 10) (dst := some 12) rfl rfl rfl (decide_eq_false hc3) (fun _ ho => ok_len_str ho rfl tu9 (.tmp rfl)) ?_
      refine q_op_g (t := 10) (dst := some 13) rfl rfl rfl (decide_eq_false hc3) (fun _ ho => ok_ibin ho (.tmp rfl) (.int _ _) rfl) ?_
      refine q_op (dst := some 14) rfl (fun _ ho => ok_pick_ff ho (.tmp rfl) (decide_eq_false hc3) (.tmp rfl)) ?_
      try dsimp only [HAct.put, List.set_cons_zero, List.set_cons_succ]
      try dsimp only [HAct.put, List.set_cons_zero, List.set_cons_succ]
      exact J0_snd  h
end
end rollcalllaw03_ValidAlike
end Go.Proofs.Ytpcdkecglgokoaa.X
