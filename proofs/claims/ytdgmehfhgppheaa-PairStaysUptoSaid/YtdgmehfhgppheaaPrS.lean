/- Functions of the program, each as a Lean function over the layer HL: a call answers what the Lean function answers, where it answers. -/
import Derived.Test.YtdgmehfhgppheaaProg
import Derived.Test.YtdgmehfhgppheaaHLz
namespace Go.Proofs.Ytdgmehfhgppheaa.X
open Go.Proofs.Ytdgmehfhgppheaa.HL
set_option linter.unusedVariables false
set_option linter.unusedSimpArgs false
set_option maxRecDepth 20000
set_option maxHeartbeats 4000000
theorem st66 : StructAt Try.prog 66 [(0, 1), (1, 1), (2, 1), (3, 1)] [(.int .i64 0), (.int .i64 0), (.map none), (.map none)] := structAt_mk (zv := (.agg #[(.int .i64 0), (.int .i64 0), (.map none), (.map none)])) (by kernel_rfl) (by kernel_rfl) (fun β => VRels.cons (.int _ _) (VRels.cons (.int _ _) (VRels.cons (.mapNil) (VRels.cons (.mapNil) (VRels.nil β)))))
theorem tu40 : Try.prog.underlying 40 = some (.slice 9) := by kernel_rfl
theorem tu3 : Try.prog.underlying 3 = some (.int .i64) := by kernel_rfl
theorem tu105 : Try.prog.underlying 105 = some (.int .u64) := by kernel_rfl
theorem sz9 : ∃ q, Try.prog.info? 9 = some q ∧ q.size = 1 := size_mk' (by kernel_rfl)
theorem sc9 : Scalar Try.prog 9 := ⟨.string, by kernel_rfl, trivial⟩
theorem tu75 : Try.prog.underlying 75 = some (.pointer 93) := by kernel_rfl
theorem fi93_0 : fieldInfo Try.prog 93 0 = some (0, 40, 1) := by kernel_rfl
theorem sc40 : Scalar Try.prog 40 := ⟨(.slice 9), by kernel_rfl, trivial⟩
theorem tu25 : Try.prog.underlying 25 = some (.pointer 66) := by kernel_rfl
theorem fi66_2 : fieldInfo Try.prog 66 2 = some (2, 63, 1) := by kernel_rfl
theorem sc63 : Scalar Try.prog 63 := ⟨(.map 3 75), by kernel_rfl, trivial⟩
theorem tu63 : Try.prog.underlying 63 = some (.map 3 75) := by kernel_rfl
theorem zi75 : (Try.prog.info? 75).map (·.zero) = some (some (.pointer none)) := by kernel_rfl
theorem si9 : SizeIs Try.prog 9 1 16 := sizeIs_mk (by kernel_rfl)
theorem el40 : ElemAt Try.prog 40 9 1 [(.str [])] := elemAt_mk (zv := (.string ⟨#[]⟩)) (by_ := 16) (by kernel_rfl) (by kernel_rfl) (by decide) (fun β => VRels.cons (.str []) (VRels.nil β)) rfl (by decide) rfl
theorem ext74 : ExtAt Try.prog 74 (Extern.SlicesOverlaps.overlaps #[40, 40] #[4]) := ⟨Try.f74, Try.func74, by kernel_rfl, by kernel_rfl, by kernel_rfl, by kernel_rfl⟩
theorem sz40 : ∃ q, Try.prog.info? 40 = some q ∧ q.size = 1 := size_mk' (by kernel_rfl)
theorem st93 : StructAt Try.prog 93 [(0, 1)] [(Sl.hv Sl.nil)] := structAt_mk (zv := (.agg #[(.slice none 0 0)])) (by kernel_rfl) (by kernel_rfl) (fun β => VRels.cons (.slNil none) (VRels.nil β))
theorem tu43 : Try.prog.underlying 43 = some (.slice 3) := by kernel_rfl
theorem sz3 : ∃ q, Try.prog.info? 3 = some q ∧ q.size = 1 := size_mk' (by kernel_rfl)
theorem sc3 : Scalar Try.prog 3 := ⟨(.int .i64), by kernel_rfl, trivial⟩
theorem si3 : SizeIs Try.prog 3 1 8 := sizeIs_mk (by kernel_rfl)
theorem el43 : ElemAt Try.prog 43 3 1 [(.int .i64 0)] := elemAt_mk (zv := (.int .i64 0)) (by_ := 8) (by kernel_rfl) (by kernel_rfl) (by decide) (fun β => VRels.cons (.int _ _) (VRels.nil β)) rfl (by decide) rfl
theorem ext76 : ExtAt Try.prog 76 (Extern.SlicesOverlaps.overlaps #[43, 43] #[4]) := ⟨Try.f76, Try.func76, by kernel_rfl, by kernel_rfl, by kernel_rfl, by kernel_rfl⟩
theorem tu83 : Try.prog.underlying 83 = some (.pointer 99) := by kernel_rfl
theorem fi99_0 : fieldInfo Try.prog 99 0 = some (0, 43, 1) := by kernel_rfl
theorem sc43 : Scalar Try.prog 43 := ⟨(.slice 3), by kernel_rfl, trivial⟩
theorem sz43 : ∃ q, Try.prog.info? 43 = some q ∧ q.size = 1 := size_mk' (by kernel_rfl)
theorem st99 : StructAt Try.prog 99 [(0, 1)] [(Sl.hv Sl.nil)] := structAt_mk (zv := (.agg #[(.slice none 0 0)])) (by kernel_rfl) (by kernel_rfl) (fun β => VRels.cons (.slNil none) (VRels.nil β))
theorem tu9 : Try.prog.underlying 9 = some .string := by kernel_rfl
theorem tu64 : Try.prog.underlying 64 = some (.map 9 83) := by kernel_rfl
theorem zi83 : (Try.prog.info? 83).map (·.zero) = some (some (.pointer none)) := by kernel_rfl
theorem fi66_0 : fieldInfo Try.prog 66 0 = some (0, 3, 1) := by kernel_rfl
theorem fi66_3 : fieldInfo Try.prog 66 3 = some (3, 64, 1) := by kernel_rfl
theorem sc64 : Scalar Try.prog 64 := ⟨(.map 9 83), by kernel_rfl, trivial⟩
theorem fi66_1 : fieldInfo Try.prog 66 1 = some (1, 3, 1) := by kernel_rfl
theorem zi43 : (Try.prog.info? 43).map (·.zero) = some (some (.slice none 0 0)) := by kernel_rfl
theorem zr43 : ∀ β, VRels β [(Sl.hv Sl.nil)] (Value.cells (.slice none 0 0)) := fun β => VRels.cons (.slNil none) (VRels.nil β)
theorem zi4 : (Try.prog.info? 4).map (·.zero) = some (some (.bool false)) := by kernel_rfl
theorem zr4 : ∀ β, VRels β [(.bool false)] (Value.cells (.bool false)) := fun β => VRels.cons (.bool _) (VRels.nil β)
theorem tu59 : Try.prog.underlying 59 = some (.func #[82] #[] false) := by kernel_rfl
theorem sz4 : ∃ q, Try.prog.info? 4 = some q ∧ q.size = 1 := size_mk' (by kernel_rfl)
theorem sc4 : Scalar Try.prog 4 := ⟨.bool, by kernel_rfl, trivial⟩
theorem st80 : StructAt Try.prog 80 [(0, 1), (1, 1), (2, 1), (3, 1)] [(.int .i64 0), (.int .i64 0), (.map none), (.map none)] := structAt_mk (zv := (.agg #[(.int .i64 0), (.int .i64 0), (.map none), (.map none)])) (by kernel_rfl) (by kernel_rfl) (fun β => VRels.cons (.int _ _) (VRels.cons (.int _ _) (VRels.cons (.mapNil) (VRels.cons (.mapNil) (VRels.nil β)))))
theorem tu54 : Try.prog.underlying 54 = some (.pointer 80) := by kernel_rfl
theorem fi80_2 : fieldInfo Try.prog 80 2 = some (2, 78, 1) := by kernel_rfl
theorem sc78 : Scalar Try.prog 78 := ⟨(.map 3 83), by kernel_rfl, trivial⟩
theorem tu78 : Try.prog.underlying 78 = some (.map 3 83) := by kernel_rfl
theorem fi80_0 : fieldInfo Try.prog 80 0 = some (0, 3, 1) := by kernel_rfl
theorem fi80_3 : fieldInfo Try.prog 80 3 = some (3, 78, 1) := by kernel_rfl
theorem fi80_1 : fieldInfo Try.prog 80 1 = some (1, 3, 1) := by kernel_rfl
theorem zi40 : (Try.prog.info? 40).map (·.zero) = some (some (.slice none 0 0)) := by kernel_rfl
theorem zr40 : ∀ β, VRels β [(Sl.hv Sl.nil)] (Value.cells (.slice none 0 0)) := fun β => VRels.cons (.slNil none) (VRels.nil β)
theorem tu72 : Try.prog.underlying 72 = some (.func #[76] #[] false) := by kernel_rfl
theorem zi3 : (Try.prog.info? 3).map (·.zero) = some (some (.int .i64 0)) := by kernel_rfl
theorem zr3 : ∀ β, VRels β [(.int .i64 0)] (Value.cells (.int .i64 0)) := fun β => VRels.cons (.int _ _) (VRels.nil β)
theorem sc25 : Scalar Try.prog 25 := ⟨(.pointer 66), by kernel_rfl, trivial⟩
theorem zi54 : (Try.prog.info? 54).map (·.zero) = some (some (.pointer none)) := by kernel_rfl
theorem zr54 : ∀ β, VRels β [(.ptr none)] (Value.cells (.pointer none)) := fun β => VRels.cons (.ptrNil) (VRels.nil β)
theorem sz54 : ∃ q, Try.prog.info? 54 = some q ∧ q.size = 1 := size_mk' (by kernel_rfl)
theorem sc54 : Scalar Try.prog 54 := ⟨(.pointer 80), by kernel_rfl, trivial⟩
namespace pair_New_int_string
theorem at_ : FnAt Try.prog 8 Try.f8 := ⟨Try.func8, by kernel_rfl⟩
noncomputable def d0 := (Try.f8.body).getD .skip
noncomputable def r1 := kR (kA d0)
noncomputable def r4 := kR (kA (kA (kB d0)))
noncomputable def r7 := kR (kA (kA (kB (kA (kB d0)))))
noncomputable def r11 := kR (kA (kB (kB d0)))
noncomputable def c10 : Code := .seq (.region 3 r11 false) .ret
noncomputable def c5 : Code := .cond (.tmp 9) (.seq (.region 2 r7 false) .ret) .skip
noncomputable def c0 : Code := .seq (.region 0 r1 false) (.seq (.seq (.region 1 r4 false) c5) c10)
theorem body : Try.f8.body = some c0 := by kernel_rfl
section
variable {base : Nat} {W0 : World} {β0 : Bt}
def J0  (y0 : Int) (y9 : Bool) (S : HS) : Option (((Option HA) × Int) × HS) :=
  (if y9 = true then
  some ((none, 2), S) else
  (letv (HS.new S (.map [])) fun p3 =>
  (letv (HS.new p3 (.map [])) fun p4 =>
  (letv (HS.new p4 (.cells 4 [[(.int .i64 y0), (.int .i64 0), (.map (some S.next)), (.map (some p3.next))]] true)) fun p5 =>
  some (((some (HA.cell0 p4.next)), 0), p5)))))
theorem J0_snd   {y0 : Int} {y9 : Bool} {S : HS} {p : ((Option HA) × Int) × HS} {g1 g2 g3 g4 g5 g6 g7 g8 g10 g11 g12 g13 g14 : HV} (h : J0  y0 y9 S = some p) : HRun Try.prog base W0 β0 8 none [.code c5, .code c10] ⟨[(.int .i64 y0), g1, g2, g3, g4, g5, g6, g7, g8, (.bool y9), g10, g11, g12, g13, g14], []⟩ S (fun v S1 => v = (.tup [(.ptr p.1.1), (.int .i64 p.1.2)]) ∧ S1 = p.2) := by
  unfold J0 at h
  rcases ifc h with ⟨hc2, h⟩ | ⟨hc2, h⟩
  · refine q_cond_t rfl (.tmp rfl) hc2 ?_
    refine q_seq rfl ?_
    refine q_region rfl rfl ?_
    refine qS 2 rfl (ok_assign · (.const fun _ => .ptrNil)) ?_
    refine qS 3 rfl (ok_assign · (.int _ _)) ?_
    refine hr_region_end ?_
    try dsimp only [w0, w1, w2, w3]
    cases h
    exact q_ret rfl at_.at_ rfl (res2 rfl rfl rfl) ⟨rfl, rfl⟩
  · refine q_cond_f rfl (.tmp rfl) (bfalse hc2) ?_
    refine q_skipc rfl ?_
    refine q_seq rfl ?_
    refine q_region rfl rfl ?_
    refine qS 10 rfl (ok_move · (.tmp rfl)) ?_
    obtain ⟨p3, hp3, h⟩ := leto h
    refine qS 11 rfl (ok_makeMap_e · hp3) ?_
    obtain ⟨p4, hp4, h⟩ := leto h
    refine qS 12 rfl (ok_makeMap_e · hp4) ?_
    refine qS 13 rfl (ok_build (is := [0, 2, 3]) (xs := [(.tmp 10), (.tmp 11), (.tmp 12)]) (r := [(.int .i64 y0), (.int .i64 0), (.map (some S.next)), (.map (some p3.next))]) st66 · rfl rfl (.cons (.tmp rfl) (.cons (.tmp rfl) (.cons (.tmp rfl) Evs.nil))) rfl) ?_
    try dsimp only [w0, w1, w2, w3]
    obtain ⟨p5, hp5, h⟩ := leto h
    refine qS 14 rfl (ok_box_e · (.tmp rfl) (Nat.zero_lt_succ _) rfl hp5) ?_
    refine qS 2 rfl (ok_assign · (.tmp rfl)) ?_
    refine qS 3 rfl (ok_assign · (.int _ _)) ?_
    refine hr_region_end ?_
    try dsimp only [w0, w1, w2, w3]
    cases h
    exact q_ret rfl at_.at_ rfl (res2 rfl rfl rfl) ⟨rfl, rfl⟩
def f (x0 : Int) (S : HS) : Option (((Option HA) × Int) × HS) :=
  (if x0 < 0 then
  J0 x0 true S else
  J0 x0 (decide (x0 > 100000)) S)
theorem snd {x0 : Int} {S : HS}  {p : ((Option HA) × Int) × HS} (h : f x0 S = some p) : HCall Try.prog base W0 β0 8 [(.int .i64 x0)] S (fun v S1 => v = (.tup [(.ptr p.1.1), (.int .i64 p.1.2)]) ∧ S1 = p.2) := by
  unfold f at h
  refine HCall.of_run at_.at_ body ?_
  show HRun Try.prog base W0 β0 8 none [.code c0] ⟨[(.int .i64 x0), τ, τ, τ, τ, τ, τ, τ, τ, τ, τ, τ, τ, τ, τ], []⟩ S _
  refine q_seq rfl ?_
  refine q_region rfl rfl ?_
  refine qS 2 rfl (ok_assign · (.const fun _ => .ptrNil)) ?_
  refine qS 3 rfl (ok_assign · (.int _ _)) ?_
  refine hr_region_end ?_
  try dsimp only [w0, w1, w2, w3]
  refine q_seq rfl ?_
  refine q_seq rfl ?_
  refine q_region rfl rfl ?_
  refine qS 4 rfl (ok_move · (.tmp rfl)) ?_
  refine qS 5 rfl (ok_ibin · (.tmp rfl) (.int _ _) rfl) ?_
  refine qS 6 rfl (ok_move · (.tmp rfl)) ?_
  rcases ifc h with ⟨hc1, h⟩ | ⟨hc1, h⟩
  · refine q_skip (dst := some 7) (t := 6) rfl rfl rfl (decide_eq_true hc1) ?_
    try dsimp only [w0, w1, w2, w3]
    refine q_skip (dst := some 8) (t := 6) rfl rfl rfl (decide_eq_true hc1) ?_
    refine qS 9 rfl (ok_pick_tt · (.tmp rfl) (decide_eq_true hc1) (.bool _)) ?_
    refine hr_region_end ?_
    try dsimp only [w0, w1, w2, w3]
    try dsimp only [w0, w1, w2, w3]
    exact J0_snd  h
  · refine qG 6 7 rfl (decide_eq_false hc1) (ok_move · (.tmp rfl)) ?_
    try dsimp only [w0, w1, w2, w3]
    refine qG 6 8 rfl (decide_eq_false hc1) (ok_ibin · (.tmp rfl) (.int _ _) rfl) ?_
    refine qS 9 rfl (ok_pick_ff · (.tmp rfl) (decide_eq_false hc1) (.tmp rfl)) ?_
    refine hr_region_end ?_
    try dsimp only [w0, w1, w2, w3]
    try dsimp only [w0, w1, w2, w3]
    exact J0_snd  h
end
end pair_New_int_string
namespace cmp_isNaN_string
theorem at_ : FnAt Try.prog 78 Try.f78 := ⟨Try.func78, by kernel_rfl⟩
noncomputable def d0 := (Try.f78.body).getD .skip
noncomputable def r1 := kR (kA d0)
noncomputable def r3 := kR (kA (kB d0))
noncomputable def c0 : Code := .seq (.region 0 r1 false) (.seq (.region 1 r3 false) .ret)
theorem body : Try.f78.body = some c0 := by kernel_rfl
section
variable {base : Nat} {W0 : World} {β0 : Bt}
def f (x0 : (List UInt8)) : Option (Bool) :=
  some (!decide (x0 = x0))
theorem snd {x0 : (List UInt8)} {S : HS}  {p : Bool} (h : f x0 = some p) : HCall Try.prog base W0 β0 78 [(.str x0)] S (fun v S1 => v = (.bool p) ∧ S1 = S) := by
  unfold f at h
  refine HCall.of_run at_.at_ body ?_
  show HRun Try.prog base W0 β0 78 none [.code c0] ⟨[(.str x0), τ, τ, τ, τ, τ], []⟩ S _
  refine q_seq rfl ?_
  refine q_region rfl rfl ?_
  refine qS 2 rfl (ok_assign · (.bool _)) ?_
  refine hr_region_end ?_
  try dsimp only [w0, w1, w2, w3]
  refine q_seq rfl ?_
  refine q_region rfl rfl ?_
  refine qS 3 rfl (ok_move · (.tmp rfl)) ?_
  refine qS 4 rfl (ok_move · (.tmp rfl)) ?_
  refine qS 5 rfl (ok_sbin · (.tmp rfl) (.tmp rfl) rfl) ?_
  refine qS 2 rfl (ok_assign · (.tmp rfl)) ?_
  refine hr_region_end ?_
  try dsimp only [w0, w1, w2, w3]
  cases h
  exact q_ret rfl at_.at_ rfl (res1 rfl rfl) ⟨rfl, rfl⟩
end
end cmp_isNaN_string
namespace cmp_Less_string
theorem at_ : FnAt Try.prog 66 Try.f66 := ⟨Try.func66, by kernel_rfl⟩
noncomputable def d0 := (Try.f66.body).getD .skip
noncomputable def r1 := kR (kA d0)
noncomputable def r3 := kR (kA (kB d0))
noncomputable def c4 : Code := .ret
noncomputable def c0 : Code := .seq (.region 0 r1 false) (.seq (.region 1 r3 false) c4)
theorem body : Try.f66.body = some c0 := by kernel_rfl
section
variable {base : Nat} {W0 : World} {β0 : Bt}
def J1  (y16 : Bool) : Option (Bool) :=
  some y16
theorem J1_snd   {y16 : Bool} {S : HS} {p : Bool} {g0 g1 g2 g3 g4 g5 g6 g7 g8 g9 g10 g11 g12 g13 g14 g15 : HV} (h : J1  y16 = some p) : HRun Try.prog base W0 β0 66 none [.inRegion r3 [12], .code c4] ⟨[g0, g1, g2, g3, g4, g5, g6, g7, g8, g9, g10, g11, g12, g13, g14, g15, (.bool y16)], []⟩ S (fun v S1 => v = (.bool p) ∧ S1 = S) := by
  unfold J1 at h
  refine qS 4 rfl (ok_assign · (.tmp rfl)) ?_
  refine hr_region_end ?_
  try dsimp only [w0, w1, w2, w3]
  cases h
  exact q_ret rfl at_.at_ rfl (res1 rfl rfl) ⟨rfl, rfl⟩
def J0  (y0 : (List UInt8)) (y1 : (List UInt8)) (y11 : Bool) : Option (Bool) :=
  (if y11 = true then
  J1 true else
  J1 (slt y0 y1))
theorem J0_snd   {y0 : (List UInt8)} {y1 : (List UInt8)} {y11 : Bool} {S : HS} {p : Bool} {g2 g3 g4 g5 g6 g7 g8 g9 g10 g12 g13 g14 g15 g16 : HV} (h : J0  y0 y1 y11 = some p) : HRun Try.prog base W0 β0 66 none [.inRegion r3 [7, 8, 9, 10, 11, 12], .code c4] ⟨[(.str y0), (.str y1), g2, g3, g4, g5, g6, g7, g8, g9, g10, (.bool y11), g12, g13, g14, g15, g16], []⟩ S (fun v S1 => v = (.bool p) ∧ S1 = S) := by
  unfold J0 at h
  refine qS 12 rfl (ok_move · (.tmp rfl)) ?_
  try dsimp only [w0, w1, w2, w3]
  rcases ifc h with ⟨hc4, h⟩ | ⟨hc4, h⟩
  · refine q_skip (dst := some 13) (t := 12) rfl rfl rfl hc4 ?_
    refine q_skip (dst := some 14) (t := 12) rfl rfl rfl hc4 ?_
    refine q_skip (dst := some 15) (t := 12) rfl rfl rfl hc4 ?_
    refine qS 16 rfl (ok_pick_tt · (.tmp rfl) hc4 (.bool _)) ?_
    try dsimp only [w0, w1, w2, w3]
    try dsimp only [w0, w1, w2, w3]
    exact J1_snd  h
  · refine qG 12 13 rfl (bfalse hc4) (ok_move · (.tmp rfl)) ?_
    refine qG 12 14 rfl (bfalse hc4) (ok_move · (.tmp rfl)) ?_
    refine qG 12 15 rfl (bfalse hc4) (ok_sbin · (.tmp rfl) (.tmp rfl) rfl) ?_
    refine qS 16 rfl (ok_pick_ff · (.tmp rfl) (bfalse hc4) (.tmp rfl)) ?_
    try dsimp only [w0, w1, w2, w3]
    try dsimp only [w0, w1, w2, w3]
    exact J1_snd  h
def f (x0 : (List UInt8)) (x1 : (List UInt8)) : Option (Bool) :=
  (Option.bind (cmp_isNaN_string.f x0) fun p1 =>
  (if p1 = true then
  (Option.bind (cmp_isNaN_string.f x1) fun p3 =>
  J0 x0 x1 (!p3)) else
  J0 x0 x1 false))
theorem snd {x0 : (List UInt8)} {x1 : (List UInt8)} {S : HS}  {p : Bool} (h : f x0 x1 = some p) : HCall Try.prog base W0 β0 66 [(.str x0), (.str x1)] S (fun v S1 => v = (.bool p) ∧ S1 = S) := by
  unfold f at h
  refine HCall.of_run at_.at_ body ?_
  show HRun Try.prog base W0 β0 66 none [.code c0] ⟨[(.str x0), (.str x1), τ, τ, τ, τ, τ, τ, τ, τ, τ, τ, τ, τ, τ, τ, τ], []⟩ S _
  refine q_seq rfl ?_
  refine q_region rfl rfl ?_
  refine qS 4 rfl (ok_assign · (.bool _)) ?_
  refine hr_region_end ?_
  try dsimp only [w0, w1, w2, w3]
  refine q_seq rfl ?_
  refine q_region rfl rfl ?_
  refine qS 5 rfl (ok_move · (.tmp rfl)) ?_
  obtain ⟨p1, hp1, h⟩ := bindo h
  refine q_call (dst := some 6) rfl (.func _) (.cons (.tmp rfl) Evs.nil) (HInv.static cmp_isNaN_string.at_ cmp_isNaN_string.body (cmp_isNaN_string.snd  hp1)) ?_
  rintro _ _ ⟨rfl, rfl⟩
  refine qS 7 rfl (ok_move · (.tmp rfl)) ?_
  rcases ifc h with ⟨hc2, h⟩ | ⟨hc2, h⟩
  · refine qG 7 8 rfl hc2 (ok_move · (.tmp rfl)) ?_
    try dsimp only [w0, w1, w2, w3]
    obtain ⟨p3, hp3, h⟩ := bindo h
    refine q_call_g (t := 7) (dst := some 9) rfl rfl rfl hc2 (.func _) (.cons (.tmp rfl) Evs.nil) (HInv.static cmp_isNaN_string.at_ cmp_isNaN_string.body (cmp_isNaN_string.snd  hp3)) ?_
    rintro _ _ ⟨rfl, rfl⟩
    refine qG 7 10 rfl hc2 (ok_not · (.tmp rfl)) ?_
    refine qS 11 rfl (ok_pick_tt · (.tmp rfl) hc2 (.tmp rfl)) ?_
    try dsimp only [w0, w1, w2, w3]
    exact J0_snd  h
  · refine q_skip (dst := some 8) (t := 7) rfl rfl rfl (bfalse hc2) ?_
    try dsimp only [w0, w1, w2, w3]
    refine q_skip (dst := some 9) (t := 7) rfl rfl rfl (bfalse hc2) ?_
    refine q_skip (dst := some 10) (t := 7) rfl rfl rfl (bfalse hc2) ?_
    refine qS 11 rfl (ok_pick_ff · (.tmp rfl) (bfalse hc2) (.bool _)) ?_
    try dsimp only [w0, w1, w2, w3]
    exact J0_snd  h
end
end cmp_Less_string
namespace slices_isNaN_string
theorem at_ : FnAt Try.prog 67 Try.f67 := ⟨Try.func67, by kernel_rfl⟩
noncomputable def d0 := (Try.f67.body).getD .skip
noncomputable def r1 := kR (kA d0)
noncomputable def r3 := kR (kA (kB d0))
noncomputable def c0 : Code := .seq (.region 0 r1 false) (.seq (.region 1 r3 false) .ret)
theorem body : Try.f67.body = some c0 := by kernel_rfl
section
variable {base : Nat} {W0 : World} {β0 : Bt}
def f (x0 : (List UInt8)) : Option (Bool) :=
  some (!decide (x0 = x0))
theorem snd {x0 : (List UInt8)} {S : HS}  {p : Bool} (h : f x0 = some p) : HCall Try.prog base W0 β0 67 [(.str x0)] S (fun v S1 => v = (.bool p) ∧ S1 = S) := by
  unfold f at h
  refine HCall.of_run at_.at_ body ?_
  show HRun Try.prog base W0 β0 67 none [.code c0] ⟨[(.str x0), τ, τ, τ, τ, τ], []⟩ S _
  refine q_seq rfl ?_
  refine q_region rfl rfl ?_
  refine qS 2 rfl (ok_assign · (.bool _)) ?_
  refine hr_region_end ?_
  try dsimp only [w0, w1, w2, w3]
  refine q_seq rfl ?_
  refine q_region rfl rfl ?_
  refine qS 3 rfl (ok_move · (.tmp rfl)) ?_
  refine qS 4 rfl (ok_move · (.tmp rfl)) ?_
  refine qS 5 rfl (ok_sbin · (.tmp rfl) (.tmp rfl) rfl) ?_
  refine qS 2 rfl (ok_assign · (.tmp rfl)) ?_
  refine hr_region_end ?_
  try dsimp only [w0, w1, w2, w3]
  cases h
  exact q_ret rfl at_.at_ rfl (res1 rfl rfl) ⟨rfl, rfl⟩
end
end slices_isNaN_string
namespace slices_BinarySearch_string_string
theorem at_ : FnAt Try.prog 55 Try.f55 := ⟨Try.func55, by kernel_rfl⟩
noncomputable def d0 := (Try.f55.body).getD .skip
noncomputable def r1 := kR (kA d0)
noncomputable def r3 := kR (kA (kB d0))
noncomputable def r5 := kR (kA (kB (kB d0)))
noncomputable def d6 := kB (kB (kB d0))
noncomputable def d9 := kA (kA (kA d6))
noncomputable def r11 := kR (kA (kA d9))
noncomputable def r17 := kR (kA (kA (kB d9)))
noncomputable def r19 := kR (kA (kB (kA (kB d9))))
noncomputable def r21 := kR (kA (kB (kB (kA (kB d9)))))
noncomputable def r22 := kR (kB (kB (kB (kA (kB d9)))))
noncomputable def r24 := kR (kA (kB d6))
noncomputable def c25 : Code := .ret
noncomputable def c23 : Code := .seq (.region 8 r24 false) c25
noncomputable def c9 : Code := .seq (.seq (.region 3 r11 false) (.cond (.tmp 15) .skip (.exit 0))) (.block 1 (.seq (.region 4 r17 false) (.seq (.region 5 r19 false) (.cond (.tmp 27) (.region 6 r21 false) (.region 7 r22 false)))))
noncomputable def c0 : Code := .seq (.region 0 r1 false) (.seq (.region 1 r3 false) (.seq (.region 2 r5 false) (.seq (.block 0 (.loop c9)) c23)))
theorem body : Try.f55.body = some c0 := by kernel_rfl
section
variable {base : Nat} {W0 : World} {β0 : Bt}
def J2 (k : Nat) (y31 : Int) (y53 : Bool) (S : HS) : Option ((Int × Bool) × HS) :=
  some ((y31, y53), S)
theorem J2_snd {k : Nat}  {y31 : Int} {y53 : Bool} {S : HS} {p : (Int × Bool) × HS} {g0 g1 g2 g3 g4 g5 g6 g7 g8 g9 g10 g11 g12 g13 g14 g15 g16 g17 g18 g19 g20 g21 g22 g23 g24 g25 g26 g27 g28 g29 g30 g32 g33 g34 g35 g36 g37 g38 g39 g40 g41 g42 g43 g44 g45 g46 g47 g48 g49 g50 g51 g52 : HV} (h : J2 k y31 y53 S = some p) : HRun Try.prog base W0 β0 55 none [.inRegion r24 [23, 24], .code c25] ⟨[g0, g1, g2, g3, g4, g5, g6, g7, g8, g9, g10, g11, g12, g13, g14, g15, g16, g17, g18, g19, g20, g21, g22, g23, g24, g25, g26, g27, g28, g29, g30, (.int .i64 y31), g32, g33, g34, g35, g36, g37, g38, g39, g40, g41, g42, g43, g44, g45, g46, g47, g48, g49, g50, g51, g52, (.bool y53)], []⟩ S (fun v S1 => v = (.tup [(.int .i64 p.1.1), (.bool p.1.2)]) ∧ S1 = p.2) := by
  unfold J2 at h
  refine qS 4 rfl (ok_assign · (.tmp rfl)) ?_
  try dsimp only [w0, w1, w2, w3]
  refine qS 5 rfl (ok_assign · (.tmp rfl)) ?_
  refine hr_region_end ?_
  try dsimp only [w0, w1, w2, w3]
  cases h
  exact q_ret rfl at_.at_ rfl (res2 rfl rfl rfl) ⟨rfl, rfl⟩
def J1 (k : Nat) (y31 : Int) (y35 : Bool) (y52 : Bool) (S : HS) : Option ((Int × Bool) × HS) :=
  (if y35 = true then
  J2 k y31 y52 S else
  J2 k y31 false S)
theorem J1_snd {k : Nat}  {y31 : Int} {y35 : Bool} {y52 : Bool} {S : HS} {p : (Int × Bool) × HS} {g0 g1 g2 g3 g4 g5 g6 g7 g8 g9 g10 g11 g12 g13 g14 g15 g16 g17 g18 g19 g20 g21 g22 g23 g24 g25 g26 g27 g28 g29 g30 g32 g33 g34 g36 g37 g38 g39 g40 g41 g42 g43 g44 g45 g46 g47 g48 g49 g50 g51 g53 : HV} (h : J1 k y31 y35 y52 S = some p) : HRun Try.prog base W0 β0 55 none [.inRegion r24 [22, 23, 24], .code c25] ⟨[g0, g1, g2, g3, g4, g5, g6, g7, g8, g9, g10, g11, g12, g13, g14, g15, g16, g17, g18, g19, g20, g21, g22, g23, g24, g25, g26, g27, g28, g29, g30, (.int .i64 y31), g32, g33, g34, (.bool y35), g36, g37, g38, g39, g40, g41, g42, g43, g44, g45, g46, g47, g48, g49, g50, g51, (.bool y52), g53], []⟩ S (fun v S1 => v = (.tup [(.int .i64 p.1.1), (.bool p.1.2)]) ∧ S1 = p.2) := by
  unfold J1 at h
  rcases ifc h with ⟨hc10, h⟩ | ⟨hc10, h⟩
  · refine qS 53 rfl (ok_pick_tt · (.tmp rfl) hc10 (.tmp rfl)) ?_
    try dsimp only [w0, w1, w2, w3]
    exact J2_snd  h
  · refine qS 53 rfl (ok_pick_ff · (.tmp rfl) (bfalse hc10) (.bool _)) ?_
    try dsimp only [w0, w1, w2, w3]
    exact J2_snd  h
def J3 (k : Nat) (y31 : Int) (y35 : Bool) (y42 : Bool) (y51 : Bool) (S : HS) : Option ((Int × Bool) × HS) :=
  (if y35 = true then
  (if y42 = true then
  J1 k y31 y35 true S else
  J1 k y31 y35 y51 S) else
  J2 k y31 false S)
theorem J3_snd {k : Nat}  {y31 : Int} {y35 : Bool} {y42 : Bool} {y51 : Bool} {S : HS} {p : (Int × Bool) × HS} {g0 g1 g2 g3 g4 g5 g6 g7 g8 g9 g10 g11 g12 g13 g14 g15 g16 g17 g18 g19 g20 g21 g22 g23 g24 g25 g26 g27 g28 g29 g30 g32 g33 g34 g36 g37 g38 g39 g40 g41 g43 g44 g45 g46 g47 g48 g49 g50 g52 g53 : HV} (h : J3 k y31 y35 y42 y51 S = some p) : HRun Try.prog base W0 β0 55 none [.inRegion r24 [21, 22, 23, 24], .code c25] ⟨[g0, g1, g2, g3, g4, g5, g6, g7, g8, g9, g10, g11, g12, g13, g14, g15, g16, g17, g18, g19, g20, g21, g22, g23, g24, g25, g26, g27, g28, g29, g30, (.int .i64 y31), g32, g33, g34, (.bool y35), g36, g37, g38, g39, g40, g41, (.bool y42), g43, g44, g45, g46, g47, g48, g49, g50, (.bool y51), g52, g53], []⟩ S (fun v S1 => v = (.tup [(.int .i64 p.1.1), (.bool p.1.2)]) ∧ S1 = p.2) := by
  unfold J3 at h
  rcases ifc h with ⟨hc16, h⟩ | ⟨hc16, h⟩
  · rcases ifc h with ⟨hc17, h⟩ | ⟨hc17, h⟩
    · refine qG 35 52 rfl hc16 (ok_pick_tt · (.tmp rfl) hc17 (.bool _)) ?_
      try dsimp only [w0, w1, w2, w3]
      exact J1_snd  h
    · refine qG 35 52 rfl hc16 (ok_pick_ff · (.tmp rfl) (bfalse hc17) (.tmp rfl)) ?_
      try dsimp only [w0, w1, w2, w3]
      exact J1_snd  h
  · refine q_skip (dst := some 52) (t := 35) rfl rfl rfl (bfalse hc16) ?_
    refine qS 53 rfl (ok_pick_ff · (.tmp rfl) (bfalse hc16) (.bool _)) ?_
    try dsimp only [w0, w1, w2, w3]
    exact J2_snd  h
def L0 (k : Nat) : Nat → Sl → (List UInt8) → Int → Int → Int → HS → Option ((Int × Bool) × HS)
  | 0, _, _, _, _, _, _ => none
  | n + 1, y0, y1, y6, y7, y8, S =>
    (if y7 < y8 then
    (Option.bind (HS.idx S y0 (w64 (Int.fdiv (IntKind.wrap .u64 (w64 (y7 + y8))) (2 ^ (min (Int.toNat 1) (IntKind.bits .u64))))) 1) fun p2 =>
    (Option.bind (HS.ldS S p2) fun p3 =>
    (Option.bind (cmp_Less_string.f p3 y1) fun p4 =>
    (if p4 = true then
    (L0 k n) y0 y1 y6 (w64 ((w64 (Int.fdiv (IntKind.wrap .u64 (w64 (y7 + y8))) (2 ^ (min (Int.toNat 1) (IntKind.bits .u64))))) + 1)) y8 S else
    (L0 k n) y0 y1 y6 y7 (w64 (Int.fdiv (IntKind.wrap .u64 (w64 (y7 + y8))) (2 ^ (min (Int.toNat 1) (IntKind.bits .u64))))) S)))) else
    (if y7 < y6 then
    (Option.bind (HS.idx S y0 y7 1) fun p7 =>
    (Option.bind (HS.ldS S p7) fun p8 =>
    (if p8 = y1 then
    J1 k y7 (decide (y7 < y6)) true S else
    (Option.bind (HS.idx S y0 y7 1) fun p11 =>
    (Option.bind (HS.ldS S p11) fun p12 =>
    (Option.bind (slices_isNaN_string.f p12) fun p13 =>
    (if p13 = true then
    (Option.bind (slices_isNaN_string.f y1) fun p15 =>
    J3 k y7 (decide (y7 < y6)) (decide (p8 = y1)) p15 S) else
    J3 k y7 (decide (y7 < y6)) (decide (p8 = y1)) false S))))))) else
    J2 k y7 false S))
theorem L0_snd {k : Nat}  : ∀ {n : Nat} ⦃y0 : Sl⦄ ⦃y1 : (List UInt8)⦄ ⦃y6 : Int⦄ ⦃y7 : Int⦄ ⦃y8 : Int⦄ ⦃S : HS⦄ ⦃p : (Int × Bool) × HS⦄ ⦃g2 g3 g4 g5 g9 g10 g11 g12 g13 g14 g15 g16 g17 g18 g19 g20 g21 g22 g23 g24 g25 g26 g27 g28 g29 g30 g31 g32 g33 g34 g35 g36 g37 g38 g39 g40 g41 g42 g43 g44 g45 g46 g47 g48 g49 g50 g51 g52 g53 : HV⦄, L0 k n y0 y1 y6 y7 y8 S = some p → HRun Try.prog base W0 β0 55 none [.inLoop c9, .inBlock 0, .code c23] ⟨[(Sl.hv y0), (.str y1), g2, g3, g4, g5, (.int .i64 y6), (.int .i64 y7), (.int .i64 y8), g9, g10, g11, g12, g13, g14, g15, g16, g17, g18, g19, g20, g21, g22, g23, g24, g25, g26, g27, g28, g29, g30, g31, g32, g33, g34, g35, g36, g37, g38, g39, g40, g41, g42, g43, g44, g45, g46, g47, g48, g49, g50, g51, g52, g53], []⟩ S (fun v S1 => v = (.tup [(.int .i64 p.1.1), (.bool p.1.2)]) ∧ S1 = p.2) := by
  intro n
  induction n with
  | zero => intro _ _ _ _ _ _ _ _ _ _ _ _ _ _ _ _ _ _ _ _ _ _ _ _ _ _ _ _ _ _ _ _ _ _ _ _ _ _ _ _ _ _ _ _ _ _ _ _ _ _ _ _ _ _ _ _ h; cases h
  | succ n ih =>
    intro y0 y1 y6 y7 y8 S p g2 g3 g4 g5 g9 g10 g11 g12 g13 g14 g15 g16 g17 g18 g19 g20 g21 g22 g23 g24 g25 g26 g27 g28 g29 g30 g31 g32 g33 g34 g35 g36 g37 g38 g39 g40 g41 g42 g43 g44 g45 g46 g47 g48 g49 g50 g51 g52 g53 h
    simp only [L0] at h
    refine hr_inLoop ?_
    refine q_seq rfl ?_
    refine q_seq rfl ?_
    refine q_region rfl rfl ?_
    refine qS 13 rfl (ok_move · (.tmp rfl)) ?_
    refine qS 14 rfl (ok_move · (.tmp rfl)) ?_
    refine qS 15 rfl (ok_ibin · (.tmp rfl) (.tmp rfl) rfl) ?_
    refine hr_region_end ?_
    try dsimp only [w0, w1, w2, w3]
    rcases ifc h with ⟨hc1, h⟩ | ⟨hc1, h⟩
    · refine q_cond_t rfl (.tmp rfl) (decide_eq_true hc1) ?_
      refine q_skipc rfl ?_
      refine q_block rfl ?_
      refine q_seq rfl ?_
      refine q_region rfl rfl ?_
      refine qS 16 rfl (ok_move · (.tmp rfl)) ?_
      refine qS 17 rfl (ok_move · (.tmp rfl)) ?_
      refine qS 18 rfl (ok_ibin · (.tmp rfl) (.tmp rfl) rfl) ?_
      refine qS 19 rfl (ok_conv_int · tu3 tu105 (.tmp rfl)) ?_
      try dsimp only [w0, w1, w2, w3]
      refine qS 20 rfl (ok_shr · (.tmp rfl) (.int _ _) (by decide)) ?_
      refine qS 21 rfl (ok_conv_int · tu105 tu3 (.tmp rfl)) ?_
      refine qS 9 rfl (ok_assign · (.tmp rfl)) ?_
      refine hr_region_end ?_
      try dsimp only [w0, w1, w2, w3]
      refine q_seq rfl ?_
      refine q_region rfl rfl ?_
      refine qS 22 rfl (ok_move · (.tmp rfl)) ?_
      refine qS 23 rfl (ok_move · (.tmp rfl)) ?_
      obtain ⟨p2, hp2, h⟩ := bindo h
      refine qS 24 rfl (ok_indexAddr (s := y0) · tu40 sz9 (.tmp rfl) (.tmp rfl) hp2) ?_
      obtain ⟨p3, hp3, h⟩ := bindo h
      refine qS 25 rfl (ok_load_s · sc9 (.tmp rfl) rfl (ldS_out hp3)) ?_
      try dsimp only [w0, w1, w2, w3]
      refine qS 26 rfl (ok_move · (.tmp rfl)) ?_
      obtain ⟨p4, hp4, h⟩ := bindo h
      refine q_call (dst := some 27) rfl (.func _) (.cons (.tmp rfl) (.cons (.tmp rfl) Evs.nil)) (HInv.static cmp_Less_string.at_ cmp_Less_string.body (cmp_Less_string.snd  hp4)) ?_
      rintro _ _ ⟨rfl, rfl⟩
      refine hr_region_end ?_
      try dsimp only [w0, w1, w2, w3]
      rcases ifc h with ⟨hc5, h⟩ | ⟨hc5, h⟩
      · refine q_cond_t rfl (.tmp rfl) hc5 ?_
        refine q_region rfl rfl ?_
        refine qS 28 rfl (ok_move · (.tmp rfl)) ?_
        refine qS 29 rfl (ok_ibin · (.tmp rfl) (.int _ _) rfl) ?_
        refine qS 7 rfl (ok_assign · (.tmp rfl)) ?_
        refine hr_region_end ?_
        try dsimp only [w0, w1, w2, w3]
        refine hr_inBlock ?_
        try dsimp only [w0, w1, w2, w3]
        exact ih h
      · refine q_cond_f rfl (.tmp rfl) (bfalse hc5) ?_
        refine q_region rfl rfl ?_
        refine qS 30 rfl (ok_move · (.tmp rfl)) ?_
        refine qS 8 rfl (ok_assign · (.tmp rfl)) ?_
        refine hr_region_end ?_
        try dsimp only [w0, w1, w2, w3]
        refine hr_inBlock ?_
        try dsimp only [w0, w1, w2, w3]
        exact ih h
    · refine q_cond_f rfl (.tmp rfl) (decide_eq_false hc1) ?_
      refine q_exit rfl rfl ?_
      refine q_seq rfl ?_
      refine q_region rfl rfl ?_
      refine qS 31 rfl (ok_move · (.tmp rfl)) ?_
      refine qS 32 rfl (ok_move · (.tmp rfl)) ?_
      refine qS 33 rfl (ok_move · (.tmp rfl)) ?_
      refine qS 34 rfl (ok_ibin · (.tmp rfl) (.tmp rfl) rfl) ?_
      try dsimp only [w0, w1, w2, w3]
      refine qS 35 rfl (ok_move · (.tmp rfl)) ?_
      rcases ifc h with ⟨hc6, h⟩ | ⟨hc6, h⟩
      · refine qG 35 36 rfl (decide_eq_true hc6) (ok_move · (.tmp rfl)) ?_
        refine qG 35 37 rfl (decide_eq_true hc6) (ok_move · (.tmp rfl)) ?_
        obtain ⟨p7, hp7, h⟩ := bindo h
        refine qG 35 38 rfl (decide_eq_true hc6) (ok_indexAddr (s := y0) · tu40 sz9 (.tmp rfl) (.tmp rfl) hp7) ?_
        try dsimp only [w0, w1, w2, w3]
        obtain ⟨p8, hp8, h⟩ := bindo h
        refine qG 35 39 rfl (decide_eq_true hc6) (ok_load_s · sc9 (.tmp rfl) rfl (ldS_out hp8)) ?_
        refine qG 35 40 rfl (decide_eq_true hc6) (ok_move · (.tmp rfl)) ?_
        refine qG 35 41 rfl (decide_eq_true hc6) (ok_sbin · (.tmp rfl) (.tmp rfl) rfl) ?_
        refine qG 35 42 rfl (decide_eq_true hc6) (ok_move · (.tmp rfl)) ?_
        try dsimp only [w0, w1, w2, w3]
        rcases ifc h with ⟨hc9, h⟩ | ⟨hc9, h⟩
        · refine q_skip (dst := some 43) (t := 42) rfl rfl rfl (decide_eq_true hc9) ?_
          refine q_skip (dst := some 44) (t := 42) rfl rfl rfl (decide_eq_true hc9) ?_
          refine q_skip (dst := some 45) (t := 42) rfl rfl rfl (decide_eq_true hc9) ?_
          refine q_skip (dst := some 46) (t := 42) rfl rfl rfl (decide_eq_true hc9) ?_
          try dsimp only [w0, w1, w2, w3]
          refine q_skip (dst := some 47) (t := 42) rfl rfl rfl (decide_eq_true hc9) ?_
          refine q_skip (dst := some 48) (t := 42) rfl rfl rfl (decide_eq_true hc9) ?_
          refine q_skip_u (dst := some 49) (t := 48) rfl rfl rfl ?_
          refine q_skip_u (dst := some 50) (t := 48) rfl rfl rfl ?_
          try dsimp only [w0, w1, w2, w3]
          refine q_skip (dst := some 51) (t := 42) rfl rfl rfl (decide_eq_true hc9) ?_
          refine qG 35 52 rfl (decide_eq_true hc6) (ok_pick_tt · (.tmp rfl) (decide_eq_true hc9) (.bool _)) ?_
          try dsimp only [w0, w1, w2, w3]
          exact J1_snd  h
        · refine qG 42 43 rfl (decide_eq_false hc9) (ok_move · (.tmp rfl)) ?_
          refine qG 42 44 rfl (decide_eq_false hc9) (ok_move · (.tmp rfl)) ?_
          obtain ⟨p11, hp11, h⟩ := bindo h
          refine qG 42 45 rfl (decide_eq_false hc9) (ok_indexAddr (s := y0) · tu40 sz9 (.tmp rfl) (.tmp rfl) hp11) ?_
          obtain ⟨p12, hp12, h⟩ := bindo h
          refine qG 42 46 rfl (decide_eq_false hc9) (ok_load_s · sc9 (.tmp rfl) rfl (ldS_out hp12)) ?_
          try dsimp only [w0, w1, w2, w3]
          obtain ⟨p13, hp13, h⟩ := bindo h
          refine q_call_g (t := 42) (dst := some 47) rfl rfl rfl (decide_eq_false hc9) (.func _) (.cons (.tmp rfl) Evs.nil) (HInv.static slices_isNaN_string.at_ slices_isNaN_string.body (slices_isNaN_string.snd  hp13)) ?_
          rintro _ _ ⟨rfl, rfl⟩
          refine qG 42 48 rfl (decide_eq_false hc9) (ok_move · (.tmp rfl)) ?_
          rcases ifc h with ⟨hc14, h⟩ | ⟨hc14, h⟩
          · refine qG 48 49 rfl hc14 (ok_move · (.tmp rfl)) ?_
            obtain ⟨p15, hp15, h⟩ := bindo h
            refine q_call_g (t := 48) (dst := some 50) rfl rfl rfl hc14 (.func _) (.cons (.tmp rfl) Evs.nil) (HInv.static slices_isNaN_string.at_ slices_isNaN_string.body (slices_isNaN_string.snd  hp15)) ?_
            rintro _ _ ⟨rfl, rfl⟩
            try dsimp only [w0, w1, w2, w3]
            refine qG 42 51 rfl (decide_eq_false hc9) (ok_pick_tt · (.tmp rfl) hc14 (.tmp rfl)) ?_
            try dsimp only [w0, w1, w2, w3]
            exact J3_snd  h
          · refine q_skip (dst := some 49) (t := 48) rfl rfl rfl (bfalse hc14) ?_
            refine q_skip (dst := some 50) (t := 48) rfl rfl rfl (bfalse hc14) ?_
            try dsimp only [w0, w1, w2, w3]
            refine qG 42 51 rfl (decide_eq_false hc9) (ok_pick_ff · (.tmp rfl) (bfalse hc14) (.bool _)) ?_
            try dsimp only [w0, w1, w2, w3]
            exact J3_snd  h
      · refine q_skip (dst := some 36) (t := 35) rfl rfl rfl (decide_eq_false hc6) ?_
        refine q_skip (dst := some 37) (t := 35) rfl rfl rfl (decide_eq_false hc6) ?_
        refine q_skip (dst := some 38) (t := 35) rfl rfl rfl (decide_eq_false hc6) ?_
        try dsimp only [w0, w1, w2, w3]
        refine q_skip (dst := some 39) (t := 35) rfl rfl rfl (decide_eq_false hc6) ?_
        refine q_skip (dst := some 40) (t := 35) rfl rfl rfl (decide_eq_false hc6) ?_
        refine q_skip (dst := some 41) (t := 35) rfl rfl rfl (decide_eq_false hc6) ?_
        refine q_skip (dst := some 42) (t := 35) rfl rfl rfl (decide_eq_false hc6) ?_
        try dsimp only [w0, w1, w2, w3]
        refine q_skip_u (dst := some 43) (t := 42) rfl rfl rfl ?_
        refine q_skip_u (dst := some 44) (t := 42) rfl rfl rfl ?_
        refine q_skip_u (dst := some 45) (t := 42) rfl rfl rfl ?_
        refine q_skip_u (dst := some 46) (t := 42) rfl rfl rfl ?_
        try dsimp only [w0, w1, w2, w3]
        refine q_skip_u (dst := some 47) (t := 42) rfl rfl rfl ?_
        refine q_skip_u (dst := some 48) (t := 42) rfl rfl rfl ?_
        refine q_skip_u (dst := some 49) (t := 48) rfl rfl rfl ?_
        refine q_skip_u (dst := some 50) (t := 48) rfl rfl rfl ?_
        try dsimp only [w0, w1, w2, w3]
        refine q_skip_u (dst := some 51) (t := 42) rfl rfl rfl ?_
        refine q_skip (dst := some 52) (t := 35) rfl rfl rfl (decide_eq_false hc6) ?_
        refine qS 53 rfl (ok_pick_ff · (.tmp rfl) (decide_eq_false hc6) (.bool _)) ?_
        try dsimp only [w0, w1, w2, w3]
        exact J2_snd  h
def f (k : Nat) (x0 : Sl) (x1 : (List UInt8)) (S : HS) : Option ((Int × Bool) × HS) :=
  L0 k k x0 x1 (Sl.len x0 : Int) 0 (Sl.len x0 : Int) S
theorem snd {k : Nat} {x0 : Sl} {x1 : (List UInt8)} {S : HS}  {p : (Int × Bool) × HS} (h : f k x0 x1 S = some p) : HCall Try.prog base W0 β0 55 [(Sl.hv x0), (.str x1)] S (fun v S1 => v = (.tup [(.int .i64 p.1.1), (.bool p.1.2)]) ∧ S1 = p.2) := by
  unfold f at h
  refine HCall.of_run at_.at_ body ?_
  show HRun Try.prog base W0 β0 55 none [.code c0] ⟨[(Sl.hv x0), (.str x1), τ, τ, τ, τ, τ, τ, τ, τ, τ, τ, τ, τ, τ, τ, τ, τ, τ, τ, τ, τ, τ, τ, τ, τ, τ, τ, τ, τ, τ, τ, τ, τ, τ, τ, τ, τ, τ, τ, τ, τ, τ, τ, τ, τ, τ, τ, τ, τ, τ, τ, τ, τ], []⟩ S _
  refine q_seq rfl ?_
  refine q_region rfl rfl ?_
  refine qS 4 rfl (ok_assign · (.int _ _)) ?_
  refine qS 5 rfl (ok_assign · (.bool _)) ?_
  refine hr_region_end ?_
  try dsimp only [w0, w1, w2, w3]
  refine q_seq rfl ?_
  refine q_region rfl rfl ?_
  refine qS 10 rfl (ok_move · (.tmp rfl)) ?_
  refine qS 11 rfl (ok_len_sl (q := Sl.a x0) (n := Sl.len x0) (z := Sl.cap x0) · rfl tu40 (.tmp rfl)) ?_
  refine qS 6 rfl (ok_assign · (.tmp rfl)) ?_
  refine hr_region_end ?_
  try dsimp only [w0, w1, w2, w3]
  refine q_seq rfl ?_
  refine q_region rfl rfl ?_
  refine qS 12 rfl (ok_move · (.tmp rfl)) ?_
  refine qS 7 rfl (ok_assign · (.int _ _)) ?_
  refine qS 8 rfl (ok_assign · (.tmp rfl)) ?_
  refine hr_region_end ?_
  try dsimp only [w0, w1, w2, w3]
  refine q_seq rfl ?_
  refine q_block rfl ?_
  refine q_loop rfl ?_
  try dsimp only [w0, w1, w2, w3]
  exact L0_snd  h
end
end slices_BinarySearch_string_string
namespace set_Set_string_Has
theorem at_ : FnAt Try.prog 36 Try.f36 := ⟨Try.func36, by kernel_rfl⟩
noncomputable def d0 := (Try.f36.body).getD .skip
noncomputable def r1 := kR (kA d0)
noncomputable def r4 := kR (kA (kA (kB d0)))
noncomputable def r7 := kR (kA (kA (kB (kA (kB d0)))))
noncomputable def r11 := kR (kA (kB (kB d0)))
noncomputable def r13 := kR (kA (kB (kB (kB d0))))
noncomputable def c0 : Code := .seq (.region 0 r1 false) (.seq (.seq (.region 1 r4 false) (.cond (.tmp 8) (.seq (.region 2 r7 false) .ret) .skip)) (.seq (.region 3 r11 false) (.seq (.region 4 r13 false) .ret)))
theorem body : Try.f36.body = some c0 := by kernel_rfl
section
variable {base : Nat} {W0 : World} {β0 : Bt}
def f (k : Nat) (x0 : (Option HA)) (x1 : (List UInt8)) (S : HS) : Option ((Bool) × HS) :=
  (if (Option.isNone x0) = true then
  some (false, S) else
  (Option.bind (x0) fun p2 =>
  (Option.bind (HS.ldSl S (HA.fld p2 0)) fun p3 =>
  (Option.bind (slices_BinarySearch_string_string.f k p3 x1 S) fun p4 =>
  some (p4.1.2, p4.2)))))
theorem snd {k : Nat} {x0 : (Option HA)} {x1 : (List UInt8)} {S : HS}  {p : (Bool) × HS} (h : f k x0 x1 S = some p) : HCall Try.prog base W0 β0 36 [(.ptr x0), (.str x1)] S (fun v S1 => v = (.bool p.1) ∧ S1 = p.2) := by
  unfold f at h
  refine HCall.of_run at_.at_ body ?_
  show HRun Try.prog base W0 β0 36 none [.code c0] ⟨[(.ptr x0), (.str x1), τ, τ, τ, τ, τ, τ, τ, τ, τ, τ, τ, τ, τ, τ, τ, τ, τ], []⟩ S _
  refine q_seq rfl ?_
  refine q_region rfl rfl ?_
  refine qS 4 rfl (ok_assign · (.bool _)) ?_
  refine hr_region_end ?_
  try dsimp only [w0, w1, w2, w3]
  refine q_seq rfl ?_
  refine q_seq rfl ?_
  refine q_region rfl rfl ?_
  refine qS 7 rfl (ok_move · (.tmp rfl)) ?_
  refine qS 8 rfl (ok_nil_ptr · tu75 (.tmp rfl) (.inl ⟨rfl, rfl⟩)) ?_
  refine hr_region_end ?_
  try dsimp only [w0, w1, w2, w3]
  rcases ifc h with ⟨hc1, h⟩ | ⟨hc1, h⟩
  · refine q_cond_t rfl (.tmp rfl) hc1 ?_
    refine q_seq rfl ?_
    refine q_region rfl rfl ?_
    refine qS 4 rfl (ok_assign · (.bool _)) ?_
    refine hr_region_end ?_
    try dsimp only [w0, w1, w2, w3]
    cases h
    exact q_ret rfl at_.at_ rfl (res1 rfl rfl) ⟨rfl, rfl⟩
  · refine q_cond_f rfl (.tmp rfl) (bfalse hc1) ?_
    refine q_skipc rfl ?_
    refine q_seq rfl ?_
    refine q_region rfl rfl ?_
    refine qS 10 rfl (ok_move · (.tmp rfl)) ?_
    obtain ⟨p2, hp2, h⟩ := bindo h
    refine qS 11 rfl (ok_nilCheck_p · (.tmp rfl) hp2) ?_
    refine qS 12 rfl (ok_fieldAddr_s · fi93_0 (by decide) (.tmp rfl) rfl) ?_
    obtain ⟨p3, hp3, h⟩ := bindo h
    refine qS 13 rfl (ok_load_s · sc40 (.tmp rfl) rfl (ldSl_out hp3)) ?_
    try dsimp only [w0, w1, w2, w3]
    refine qS 14 rfl (ok_move · (.tmp rfl)) ?_
    obtain ⟨p4, hp4, h⟩ := bindo h
    refine q_call (dst := some 15) rfl (.func _) (.cons (.tmp rfl) (.cons (.tmp rfl) Evs.nil)) (HInv.static slices_BinarySearch_string_string.at_ slices_BinarySearch_string_string.body (slices_BinarySearch_string_string.snd  hp4)) ?_
    rintro _ _ ⟨rfl, rfl⟩
    refine qS 9 rfl (ok_move · (.tmp rfl)) ?_
    refine qS 16 rfl (ok_extract · (.tmp rfl) rfl) ?_
    try dsimp only [w0, w1, w2, w3]
    refine qS 17 rfl (ok_extract · (.tmp rfl) rfl) ?_
    refine qS 5 rfl (ok_assign · (.tmp rfl)) ?_
    refine qS 6 rfl (ok_assign · (.tmp rfl)) ?_
    refine hr_region_end ?_
    try dsimp only [w0, w1, w2, w3]
    refine q_seq rfl ?_
    refine q_region rfl rfl ?_
    refine qS 18 rfl (ok_move · (.tmp rfl)) ?_
    refine qS 4 rfl (ok_assign · (.tmp rfl)) ?_
    refine hr_region_end ?_
    try dsimp only [w0, w1, w2, w3]
    cases h
    exact q_ret rfl at_.at_ rfl (res1 rfl rfl) ⟨rfl, rfl⟩
end
end set_Set_string_Has
namespace pair_Rel_int_string_Has
theorem at_ : FnAt Try.prog 17 Try.f17 := ⟨Try.func17, by kernel_rfl⟩
noncomputable def d0 := (Try.f17.body).getD .skip
noncomputable def r1 := kR (kA d0)
noncomputable def r3 := kR (kA (kB d0))
noncomputable def c4 : Code := .ret
noncomputable def c0 : Code := .seq (.region 0 r1 false) (.seq (.region 1 r3 false) c4)
theorem body : Try.f17.body = some c0 := by kernel_rfl
section
variable {base : Nat} {W0 : World} {β0 : Bt}
def J0 (k : Nat) (y18 : Bool) (S : HS) : Option ((Bool) × HS) :=
  some (y18, S)
theorem J0_snd {k : Nat}  {y18 : Bool} {S : HS} {p : (Bool) × HS} {g0 g1 g2 g3 g4 g5 g6 g7 g8 g9 g10 g11 g12 g13 g14 g15 g16 g17 : HV} (h : J0 k y18 S = some p) : HRun Try.prog base W0 β0 17 none [.inRegion r3 [12], .code c4] ⟨[g0, g1, g2, g3, g4, g5, g6, g7, g8, g9, g10, g11, g12, g13, g14, g15, g16, g17, (.bool y18)], []⟩ S (fun v S1 => v = (.bool p.1) ∧ S1 = p.2) := by
  unfold J0 at h
  refine qS 6 rfl (ok_assign · (.tmp rfl)) ?_
  refine hr_region_end ?_
  try dsimp only [w0, w1, w2, w3]
  cases h
  exact q_ret rfl at_.at_ rfl (res1 rfl rfl) ⟨rfl, rfl⟩
def f (k : Nat) (x0 : (Option HA)) (x1 : Int) (x2 : (List UInt8)) (S : HS) : Option ((Bool) × HS) :=
  (if (!Option.isNone x0) = true then
  (Option.bind (x0) fun p2 =>
  (Option.bind (HS.ldM S (HA.fld p2 2)) fun p3 =>
  (Option.bind (HS.look S p3 (.int .i64 x1)) fun p4 =>
  (Option.bind (dP (Option.getD p4 (.ptr none))) fun p5 =>
  (Option.bind (set_Set_string_Has.f k p5 x2 S) fun p6 =>
  J0 k p6.1 p6.2))))) else
  J0 k false S)
theorem snd {k : Nat} {x0 : (Option HA)} {x1 : Int} {x2 : (List UInt8)} {S : HS}  {p : (Bool) × HS} (h : f k x0 x1 x2 S = some p) : HCall Try.prog base W0 β0 17 [(.ptr x0), (.int .i64 x1), (.str x2)] S (fun v S1 => v = (.bool p.1) ∧ S1 = p.2) := by
  unfold f at h
  refine HCall.of_run at_.at_ body ?_
  show HRun Try.prog base W0 β0 17 none [.code c0] ⟨[(.ptr x0), (.int .i64 x1), (.str x2), τ, τ, τ, τ, τ, τ, τ, τ, τ, τ, τ, τ, τ, τ, τ, τ], []⟩ S _
  refine q_seq rfl ?_
  refine q_region rfl rfl ?_
  refine qS 6 rfl (ok_assign · (.bool _)) ?_
  refine hr_region_end ?_
  try dsimp only [w0, w1, w2, w3]
  refine q_seq rfl ?_
  refine q_region rfl rfl ?_
  refine qS 7 rfl (ok_move · (.tmp rfl)) ?_
  refine qS 8 rfl (ok_nil_ptr · tu25 (.tmp rfl) (.inr ⟨rfl, rfl⟩)) ?_
  refine qS 9 rfl (ok_move · (.tmp rfl)) ?_
  rcases ifc h with ⟨hc1, h⟩ | ⟨hc1, h⟩
  · refine qG 9 10 rfl hc1 (ok_move · (.tmp rfl)) ?_
    try dsimp only [w0, w1, w2, w3]
    obtain ⟨p2, hp2, h⟩ := bindo h
    refine qG 9 11 rfl hc1 (ok_nilCheck_p · (.tmp rfl) hp2) ?_
    refine qG 9 12 rfl hc1 (ok_fieldAddr_s · fi66_2 (by decide) (.tmp rfl) rfl) ?_
    obtain ⟨p3, hp3, h⟩ := bindo h
    refine qG 9 13 rfl hc1 (ok_load_s · sc63 (.tmp rfl) rfl (ldM_out hp3)) ?_
    refine qG 9 14 rfl hc1 (ok_move · (.tmp rfl)) ?_
    try dsimp only [w0, w1, w2, w3]
    obtain ⟨p4, hp4, h⟩ := bindo h
    obtain ⟨p5, hp5, h⟩ := bindo h
    refine qG 9 15 rfl hc1 (ok_lookup · tu63 zi75 (fun β => .ptrNil) (keyInt tu3) (.tmp rfl) (.tmp rfl) hp4 (dP_out hp5)) ?_
    refine qG 9 16 rfl hc1 (ok_move · (.tmp rfl)) ?_
    obtain ⟨p6, hp6, h⟩ := bindo h
    refine q_call_g (t := 9) (dst := some 17) rfl rfl rfl hc1 (.func _) (.cons (.tmp rfl) (.cons (.tmp rfl) Evs.nil)) (HInv.static set_Set_string_Has.at_ set_Set_string_Has.body (set_Set_string_Has.snd  hp6)) ?_
    rintro _ _ ⟨rfl, rfl⟩
    refine qS 18 rfl (ok_pick_tt · (.tmp rfl) hc1 (.tmp rfl)) ?_
    try dsimp only [w0, w1, w2, w3]
    try dsimp only [w0, w1, w2, w3]
    exact J0_snd  h
  · refine q_skip (dst := some 10) (t := 9) rfl rfl rfl (bfalse hc1) ?_
    try dsimp only [w0, w1, w2, w3]
    refine q_skip (dst := some 11) (t := 9) rfl rfl rfl (bfalse hc1) ?_
    refine q_skip (dst := some 12) (t := 9) rfl rfl rfl (bfalse hc1) ?_
    refine q_skip (dst := some 13) (t := 9) rfl rfl rfl (bfalse hc1) ?_
    refine q_skip (dst := some 14) (t := 9) rfl rfl rfl (bfalse hc1) ?_
    try dsimp only [w0, w1, w2, w3]
    refine q_skip (dst := some 15) (t := 9) rfl rfl rfl (bfalse hc1) ?_
    refine q_skip (dst := some 16) (t := 9) rfl rfl rfl (bfalse hc1) ?_
    refine q_skip (dst := some 17) (t := 9) rfl rfl rfl (bfalse hc1) ?_
    refine qS 18 rfl (ok_pick_ff · (.tmp rfl) (bfalse hc1) (.bool _)) ?_
    try dsimp only [w0, w1, w2, w3]
    try dsimp only [w0, w1, w2, w3]
    exact J0_snd  h
end
end pair_Rel_int_string_Has
namespace set_Set_string_Len
theorem at_ : FnAt Try.prog 37 Try.f37 := ⟨Try.func37, by kernel_rfl⟩
noncomputable def d0 := (Try.f37.body).getD .skip
noncomputable def r1 := kR (kA d0)
noncomputable def r4 := kR (kA (kA (kB d0)))
noncomputable def r7 := kR (kA (kA (kB (kA (kB d0)))))
noncomputable def r11 := kR (kA (kB (kB d0)))
noncomputable def c0 : Code := .seq (.region 0 r1 false) (.seq (.seq (.region 1 r4 false) (.cond (.tmp 4) (.seq (.region 2 r7 false) .ret) .skip)) (.seq (.region 3 r11 false) .ret))
theorem body : Try.f37.body = some c0 := by kernel_rfl
section
variable {base : Nat} {W0 : World} {β0 : Bt}
def f (x0 : (Option HA)) (S : HS) : Option ((Int) × HS) :=
  (if (Option.isNone x0) = true then
  some (0, S) else
  (Option.bind (x0) fun p2 =>
  (Option.bind (HS.ldSl S (HA.fld p2 0)) fun p3 =>
  some ((Sl.len p3 : Int), S))))
theorem snd {x0 : (Option HA)} {S : HS}  {p : (Int) × HS} (h : f x0 S = some p) : HCall Try.prog base W0 β0 37 [(.ptr x0)] S (fun v S1 => v = (.int .i64 p.1) ∧ S1 = p.2) := by
  unfold f at h
  refine HCall.of_run at_.at_ body ?_
  show HRun Try.prog base W0 β0 37 none [.code c0] ⟨[(.ptr x0), τ, τ, τ, τ, τ, τ, τ, τ, τ], []⟩ S _
  refine q_seq rfl ?_
  refine q_region rfl rfl ?_
  refine qS 2 rfl (ok_assign · (.int _ _)) ?_
  refine hr_region_end ?_
  try dsimp only [w0, w1, w2, w3]
  refine q_seq rfl ?_
  refine q_seq rfl ?_
  refine q_region rfl rfl ?_
  refine qS 3 rfl (ok_move · (.tmp rfl)) ?_
  refine qS 4 rfl (ok_nil_ptr · tu75 (.tmp rfl) (.inl ⟨rfl, rfl⟩)) ?_
  refine hr_region_end ?_
  try dsimp only [w0, w1, w2, w3]
  rcases ifc h with ⟨hc1, h⟩ | ⟨hc1, h⟩
  · refine q_cond_t rfl (.tmp rfl) hc1 ?_
    refine q_seq rfl ?_
    refine q_region rfl rfl ?_
    refine qS 2 rfl (ok_assign · (.int _ _)) ?_
    refine hr_region_end ?_
    try dsimp only [w0, w1, w2, w3]
    cases h
    exact q_ret rfl at_.at_ rfl (res1 rfl rfl) ⟨rfl, rfl⟩
  · refine q_cond_f rfl (.tmp rfl) (bfalse hc1) ?_
    refine q_skipc rfl ?_
    refine q_seq rfl ?_
    refine q_region rfl rfl ?_
    refine qS 5 rfl (ok_move · (.tmp rfl)) ?_
    obtain ⟨p2, hp2, h⟩ := bindo h
    refine qS 6 rfl (ok_nilCheck_p · (.tmp rfl) hp2) ?_
    refine qS 7 rfl (ok_fieldAddr_s · fi93_0 (by decide) (.tmp rfl) rfl) ?_
    obtain ⟨p3, hp3, h⟩ := bindo h
    refine qS 8 rfl (ok_load_s · sc40 (.tmp rfl) rfl (ldSl_out hp3)) ?_
    try dsimp only [w0, w1, w2, w3]
    refine qS 9 rfl (ok_len_sl (q := Sl.a p3) (n := Sl.len p3) (z := Sl.cap p3) · rfl tu40 (.tmp rfl)) ?_
    refine qS 2 rfl (ok_assign · (.tmp rfl)) ?_
    refine hr_region_end ?_
    try dsimp only [w0, w1, w2, w3]
    cases h
    exact q_ret rfl at_.at_ rfl (res1 rfl rfl) ⟨rfl, rfl⟩
end
end set_Set_string_Len
namespace pair_Rel_int_string_Count
theorem at_ : FnAt Try.prog 19 Try.f19 := ⟨Try.func19, by kernel_rfl⟩
noncomputable def d0 := (Try.f19.body).getD .skip
noncomputable def r1 := kR (kA d0)
noncomputable def r4 := kR (kA (kA (kB d0)))
noncomputable def r7 := kR (kA (kA (kB (kA (kB d0)))))
noncomputable def r11 := kR (kA (kB (kB d0)))
noncomputable def c0 : Code := .seq (.region 0 r1 false) (.seq (.seq (.region 1 r4 false) (.cond (.tmp 6) (.seq (.region 2 r7 false) .ret) .skip)) (.seq (.region 3 r11 false) .ret))
theorem body : Try.f19.body = some c0 := by kernel_rfl
section
variable {base : Nat} {W0 : World} {β0 : Bt}
def f (x0 : (Option HA)) (x1 : Int) (S : HS) : Option ((Int) × HS) :=
  (if (Option.isNone x0) = true then
  some (0, S) else
  (Option.bind (x0) fun p2 =>
  (Option.bind (HS.ldM S (HA.fld p2 2)) fun p3 =>
  (Option.bind (HS.look S p3 (.int .i64 x1)) fun p4 =>
  (Option.bind (dP (Option.getD p4 (.ptr none))) fun p5 =>
  (Option.bind (set_Set_string_Len.f p5 S) fun p6 =>
  some (p6.1, p6.2)))))))
theorem snd {x0 : (Option HA)} {x1 : Int} {S : HS}  {p : (Int) × HS} (h : f x0 x1 S = some p) : HCall Try.prog base W0 β0 19 [(.ptr x0), (.int .i64 x1)] S (fun v S1 => v = (.int .i64 p.1) ∧ S1 = p.2) := by
  unfold f at h
  refine HCall.of_run at_.at_ body ?_
  show HRun Try.prog base W0 β0 19 none [.code c0] ⟨[(.ptr x0), (.int .i64 x1), τ, τ, τ, τ, τ, τ, τ, τ, τ, τ, τ, τ], []⟩ S _
  refine q_seq rfl ?_
  refine q_region rfl rfl ?_
  refine qS 4 rfl (ok_assign · (.int _ _)) ?_
  refine hr_region_end ?_
  try dsimp only [w0, w1, w2, w3]
  refine q_seq rfl ?_
  refine q_seq rfl ?_
  refine q_region rfl rfl ?_
  refine qS 5 rfl (ok_move · (.tmp rfl)) ?_
  refine qS 6 rfl (ok_nil_ptr · tu25 (.tmp rfl) (.inl ⟨rfl, rfl⟩)) ?_
  refine hr_region_end ?_
  try dsimp only [w0, w1, w2, w3]
  rcases ifc h with ⟨hc1, h⟩ | ⟨hc1, h⟩
  · refine q_cond_t rfl (.tmp rfl) hc1 ?_
    refine q_seq rfl ?_
    refine q_region rfl rfl ?_
    refine qS 4 rfl (ok_assign · (.int _ _)) ?_
    refine hr_region_end ?_
    try dsimp only [w0, w1, w2, w3]
    cases h
    exact q_ret rfl at_.at_ rfl (res1 rfl rfl) ⟨rfl, rfl⟩
  · refine q_cond_f rfl (.tmp rfl) (bfalse hc1) ?_
    refine q_skipc rfl ?_
    refine q_seq rfl ?_
    refine q_region rfl rfl ?_
    refine qS 7 rfl (ok_move · (.tmp rfl)) ?_
    obtain ⟨p2, hp2, h⟩ := bindo h
    refine qS 8 rfl (ok_nilCheck_p · (.tmp rfl) hp2) ?_
    refine qS 9 rfl (ok_fieldAddr_s · fi66_2 (by decide) (.tmp rfl) rfl) ?_
    obtain ⟨p3, hp3, h⟩ := bindo h
    refine qS 10 rfl (ok_load_s · sc63 (.tmp rfl) rfl (ldM_out hp3)) ?_
    try dsimp only [w0, w1, w2, w3]
    refine qS 11 rfl (ok_move · (.tmp rfl)) ?_
    obtain ⟨p4, hp4, h⟩ := bindo h
    obtain ⟨p5, hp5, h⟩ := bindo h
    refine qS 12 rfl (ok_lookup · tu63 zi75 (fun β => .ptrNil) (keyInt tu3) (.tmp rfl) (.tmp rfl) hp4 (dP_out hp5)) ?_
    obtain ⟨p6, hp6, h⟩ := bindo h
    refine q_call (dst := some 13) rfl (.func _) (.cons (.tmp rfl) Evs.nil) (HInv.static set_Set_string_Len.at_ set_Set_string_Len.body (set_Set_string_Len.snd  hp6)) ?_
    rintro _ _ ⟨rfl, rfl⟩
    refine qS 4 rfl (ok_assign · (.tmp rfl)) ?_
    refine hr_region_end ?_
    try dsimp only [w0, w1, w2, w3]
    cases h
    exact q_ret rfl at_.at_ rfl (res1 rfl rfl) ⟨rfl, rfl⟩
end
end pair_Rel_int_string_Count
namespace slices_Reverse_string_string
theorem at_ : FnAt Try.prog 82 Try.f82 := ⟨Try.func82, by kernel_rfl⟩
noncomputable def d0 := (Try.f82.body).getD .skip
noncomputable def r1 := kR (kA d0)
noncomputable def r6 := kR (kA (kA (kA (kA (kB d0)))))
noncomputable def r12 := kR (kA (kA (kB (kA (kA (kB d0))))))
noncomputable def r13 := kR (kB (kB (kA (kA (kB d0)))))
noncomputable def c4 : Code := .seq (.seq (.region 1 r6 false) (.cond (.tmp 9) .skip (.exit 0))) (.seq (.block 1 (.region 3 r12 true)) (.region 2 r13 false))
noncomputable def c0 : Code := .seq (.region 0 r1 false) (.block 0 (.loop c4))
theorem body : Try.f82.body = some c0 := by kernel_rfl
section
variable {base : Nat} {W0 : World} {β0 : Bt}
def L0 (k : Nat) : Nat → Sl → Int → Int → HS → Option ((Unit) × HS)
  | 0, _, _, _, _ => none
  | n + 1, y0, y2, y3, S =>
    (if y2 < y3 then
    (Option.bind (HS.idx S y0 y3 1) fun p2 =>
    (Option.bind (HS.ldS S p2) fun p3 =>
    (Option.bind (HS.idx S y0 y2 1) fun p4 =>
    (Option.bind (HS.ldS S p4) fun p5 =>
    (Option.bind (HS.idx S y0 y2 1) fun p6 =>
    (Option.bind (HS.sets S p6 [(.str p3)]) fun p7 =>
    (Option.bind (HS.idx p7 y0 y3 1) fun p8 =>
    (Option.bind (HS.sets p7 p8 [(.str p5)]) fun p9 =>
    (L0 k n) y0 (w64 (y2 + 1)) (w64 (y3 - 1)) p9)))))))) else
    some ((), S))
theorem L0_snd {k : Nat}  : ∀ {n : Nat} ⦃y0 : Sl⦄ ⦃y2 : Int⦄ ⦃y3 : Int⦄ ⦃S : HS⦄ ⦃p : (Unit) × HS⦄ ⦃g1 g4 g5 g6 g7 g8 g9 g10 g11 g12 g13 g14 g15 g16 g17 g18 g19 g20 g21 g22 g23 g24 g25 g26 g27 : HV⦄, L0 k n y0 y2 y3 S = some p → HRun Try.prog base W0 β0 82 none [.inLoop c4, .inBlock 0] ⟨[(Sl.hv y0), g1, (.int .i64 y2), (.int .i64 y3), g4, g5, g6, g7, g8, g9, g10, g11, g12, g13, g14, g15, g16, g17, g18, g19, g20, g21, g22, g23, g24, g25, g26, g27], []⟩ S (fun v S1 => v = (.tup []) ∧ S1 = p.2) := by
  intro n
  induction n with
  | zero => intro _ _ _ _ _ _ _ _ _ _ _ _ _ _ _ _ _ _ _ _ _ _ _ _ _ _ _ _ _ _ h; cases h
  | succ n ih =>
    intro y0 y2 y3 S p g1 g4 g5 g6 g7 g8 g9 g10 g11 g12 g13 g14 g15 g16 g17 g18 g19 g20 g21 g22 g23 g24 g25 g26 g27 h
    simp only [L0] at h
    refine hr_inLoop ?_
    refine q_seq rfl ?_
    refine q_seq rfl ?_
    refine q_region rfl rfl ?_
    refine qS 7 rfl (ok_move · (.tmp rfl)) ?_
    refine qS 8 rfl (ok_move · (.tmp rfl)) ?_
    refine qS 9 rfl (ok_ibin · (.tmp rfl) (.tmp rfl) rfl) ?_
    refine hr_region_end ?_
    try dsimp only [w0, w1, w2, w3]
    rcases ifc h with ⟨hc1, h⟩ | ⟨hc1, h⟩
    · refine q_cond_t rfl (.tmp rfl) (decide_eq_true hc1) ?_
      refine q_skipc rfl ?_
      refine q_seq rfl ?_
      refine q_block rfl ?_
      refine x_start (cls := [0, 0, 0, 0, 0, 0, 1, 1, 0, 0, 1, 1, 1, 2, 1, 2]) (rk := [0, 1, 12, 13, 2, 3, 4, 5, 6, 7, 8, 9, 10, 11, 14, 15]) rfl (by kernel_rfl) ?_
      refine yf 14 [0] rfl (ok_move · (.tmp rfl)) ?_
      refine yf 15 [2] rfl (ok_move · (.tmp rfl)) ?_
      refine yf 16 [0] rfl (ok_move · (.tmp rfl)) ?_
      refine yf 17 [3] rfl (ok_move · (.tmp rfl)) ?_
      try dsimp only [w0, w1, w2, w3]
      refine yf 18 [0] rfl (ok_move · (.tmp rfl)) ?_
      refine yf 19 [3] rfl (ok_move · (.tmp rfl)) ?_
      obtain ⟨p2, hp2, h⟩ := bindo h
      refine yr 20 [18, 19] rfl (ok_indexAddr (s := y0) · tu40 sz9 (.tmp rfl) (.tmp rfl) hp2) ?_
      obtain ⟨p3, hp3, h⟩ := bindo h
      refine yr 21 [20] rfl (ok_load_s · sc9 (.tmp rfl) rfl (ldS_out hp3)) ?_
      try dsimp only [w0, w1, w2, w3]
      refine yf 22 [0] rfl (ok_move · (.tmp rfl)) ?_
      refine yf 23 [2] rfl (ok_move · (.tmp rfl)) ?_
      obtain ⟨p4, hp4, h⟩ := bindo h
      refine yr 24 [22, 23] rfl (ok_indexAddr (s := y0) · tu40 sz9 (.tmp rfl) (.tmp rfl) hp4) ?_
      obtain ⟨p5, hp5, h⟩ := bindo h
      refine yr 25 [24] rfl (ok_load_s · sc9 (.tmp rfl) rfl (ldS_out hp5)) ?_
      try dsimp only [w0, w1, w2, w3]
      obtain ⟨p6, hp6, h⟩ := bindo h
      refine yr 26 [14, 15] rfl (ok_indexAddr (s := y0) · tu40 sz9 (.tmp rfl) (.tmp rfl) hp6) ?_
      obtain ⟨p7, hp7, h⟩ := bindo h
      refine x_go (e_op (dst := none) (ts := [26, 21]) rfl (by intro _ _ h; cases h) (by kernel_rfl) (fun _ ho => ok_store_s (v := (.str p3)) ho sz9 (.tmp rfl) rfl (.tmp rfl) rfl hp7)) rfl ?_
      obtain ⟨p8, hp8, h⟩ := bindo h
      refine yr 27 [16, 17] rfl (ok_indexAddr (s := y0) · tu40 sz9 (.tmp rfl) (.tmp rfl) hp8) ?_
      obtain ⟨p9, hp9, h⟩ := bindo h
      refine x_go (e_op (dst := none) (ts := [27, 25]) rfl (by intro _ _ h; cases h) (by kernel_rfl) (fun _ ho => ok_store_s (v := (.str p5)) ho sz9 (.tmp rfl) rfl (.tmp rfl) rfl hp9)) rfl ?_
      refine x_rest rfl ?_
      refine hr_region_end ?_
      try dsimp only [w0, w1, w2, w3]
      refine hr_inBlock ?_
      refine q_region rfl rfl ?_
      refine qS 10 rfl (ok_move · (.tmp rfl)) ?_
      refine qS 11 rfl (ok_ibin · (.tmp rfl) (.int _ _) rfl) ?_
      refine qS 12 rfl (ok_move · (.tmp rfl)) ?_
      refine qS 13 rfl (ok_ibin · (.tmp rfl) (.int _ _) rfl) ?_
      try dsimp only [w0, w1, w2, w3]
      refine qS 2 rfl (ok_assign · (.tmp rfl)) ?_
      refine qS 3 rfl (ok_assign · (.tmp rfl)) ?_
      refine hr_region_end ?_
      try dsimp only [w0, w1, w2, w3]
      try dsimp only [w0, w1, w2, w3]
      exact ih h
    · refine q_cond_f rfl (.tmp rfl) (decide_eq_false hc1) ?_
      refine q_exit rfl rfl ?_
      cases h
      exact q_end at_.at_ rfl (res0 rfl) ⟨rfl, rfl⟩
def f (k : Nat) (x0 : Sl) (S : HS) : Option ((Unit) × HS) :=
  L0 k k x0 0 (w64 ((Sl.len x0 : Int) - 1)) S
theorem snd {k : Nat} {x0 : Sl} {S : HS}  {p : (Unit) × HS} (h : f k x0 S = some p) : HCall Try.prog base W0 β0 82 [(Sl.hv x0)] S (fun v S1 => v = (.tup []) ∧ S1 = p.2) := by
  unfold f at h
  refine HCall.of_run at_.at_ body ?_
  show HRun Try.prog base W0 β0 82 none [.code c0] ⟨[(Sl.hv x0), τ, τ, τ, τ, τ, τ, τ, τ, τ, τ, τ, τ, τ, τ, τ, τ, τ, τ, τ, τ, τ, τ, τ, τ, τ, τ, τ], []⟩ S _
  refine q_seq rfl ?_
  refine q_region rfl rfl ?_
  refine qS 4 rfl (ok_move · (.tmp rfl)) ?_
  refine qS 5 rfl (ok_len_sl (q := Sl.a x0) (n := Sl.len x0) (z := Sl.cap x0) · rfl tu40 (.tmp rfl)) ?_
  refine qS 6 rfl (ok_ibin · (.tmp rfl) (.int _ _) rfl) ?_
  refine qS 2 rfl (ok_assign · (.int _ _)) ?_
  try dsimp only [w0, w1, w2, w3]
  refine qS 3 rfl (ok_assign · (.tmp rfl)) ?_
  refine hr_region_end ?_
  try dsimp only [w0, w1, w2, w3]
  refine q_block rfl ?_
  refine q_loop rfl ?_
  try dsimp only [w0, w1, w2, w3]
  exact L0_snd  h
end
end slices_Reverse_string_string
namespace slices_rotateLeft_string
theorem at_ : FnAt Try.prog 80 Try.f80 := ⟨Try.func80, by kernel_rfl⟩
noncomputable def d0 := (Try.f80.body).getD .skip
noncomputable def r1 := kR (kA d0)
noncomputable def r3 := kR (kA (kB d0))
noncomputable def r4 := kR (kB (kB d0))
noncomputable def c0 : Code := .seq (.region 0 r1 false) (.seq (.region 1 r3 false) (.region 2 r4 false))
theorem body : Try.f80.body = some c0 := by kernel_rfl
section
variable {base : Nat} {W0 : World} {β0 : Bt}
def f (k : Nat) (x0 : Sl) (x1 : Int) (S : HS) : Option ((Unit) × HS) :=
  (Option.bind (HS.cut S x0 0 x1 1) fun p1 =>
  (Option.bind (slices_Reverse_string_string.f k p1 S) fun p2 =>
  (Option.bind (HS.cut p2.2 x0 x1 (Sl.len x0 : Int) 1) fun p3 =>
  (Option.bind (slices_Reverse_string_string.f k p3 p2.2) fun p4 =>
  (Option.bind (slices_Reverse_string_string.f k x0 p4.2) fun p5 =>
  some ((), p5.2))))))
theorem snd {k : Nat} {x0 : Sl} {x1 : Int} {S : HS}  {p : (Unit) × HS} (h : f k x0 x1 S = some p) : HCall Try.prog base W0 β0 80 [(Sl.hv x0), (.int .i64 x1)] S (fun v S1 => v = (.tup []) ∧ S1 = p.2) := by
  unfold f at h
  refine HCall.of_run at_.at_ body ?_
  show HRun Try.prog base W0 β0 80 none [.code c0] ⟨[(Sl.hv x0), (.int .i64 x1), τ, τ, τ, τ, τ, τ, τ, τ, τ, τ, τ, τ], []⟩ S _
  refine q_seq rfl ?_
  refine q_region rfl rfl ?_
  refine qS 4 rfl (ok_move · (.tmp rfl)) ?_
  refine qS 5 rfl (ok_move · (.tmp rfl)) ?_
  obtain ⟨p1, hp1, h⟩ := bindo h
  refine qS 6 rfl (ok_slice (kl := .i64) (kh := .i64) (s := x0) (l := 0) (h := x1) · tu40 si9 (.tmp rfl) (.inl ⟨rfl, rfl⟩) (.inr ⟨_, rfl, (.tmp rfl)⟩) hp1) ?_
  obtain ⟨p2, hp2, h⟩ := bindo h
  refine q_call (dst := some 7) rfl (.func _) (.cons (.tmp rfl) Evs.nil) (HInv.static slices_Reverse_string_string.at_ slices_Reverse_string_string.body (slices_Reverse_string_string.snd  hp2)) ?_
  rintro _ _ ⟨rfl, rfl⟩
  refine hr_region_end ?_
  try dsimp only [w0, w1, w2, w3]
  refine q_seq rfl ?_
  refine q_region rfl rfl ?_
  refine qS 8 rfl (ok_move · (.tmp rfl)) ?_
  refine qS 9 rfl (ok_move · (.tmp rfl)) ?_
  obtain ⟨p3, hp3, h⟩ := bindo h
  refine qS 10 rfl (ok_slice (kl := .i64) (kh := .i64) (s := x0) (l := x1) (h := (Sl.len x0 : Int)) · tu40 si9 (.tmp rfl) (.inr ⟨_, rfl, (.tmp rfl)⟩) (.inl ⟨rfl, rfl⟩) hp3) ?_
  obtain ⟨p4, hp4, h⟩ := bindo h
  refine q_call (dst := some 11) rfl (.func _) (.cons (.tmp rfl) Evs.nil) (HInv.static slices_Reverse_string_string.at_ slices_Reverse_string_string.body (slices_Reverse_string_string.snd  hp4)) ?_
  rintro _ _ ⟨rfl, rfl⟩
  refine hr_region_end ?_
  try dsimp only [w0, w1, w2, w3]
  refine q_region rfl rfl ?_
  refine qS 12 rfl (ok_move · (.tmp rfl)) ?_
  obtain ⟨p5, hp5, h⟩ := bindo h
  refine q_call (dst := some 13) rfl (.func _) (.cons (.tmp rfl) Evs.nil) (HInv.static slices_Reverse_string_string.at_ slices_Reverse_string_string.body (slices_Reverse_string_string.snd  hp5)) ?_
  rintro _ _ ⟨rfl, rfl⟩
  refine hr_region_end ?_
  try dsimp only [w0, w1, w2, w3]
  cases h
  exact q_end at_.at_ rfl (res0 rfl) ⟨rfl, rfl⟩
end
end slices_rotateLeft_string
namespace slices_rotateRight_string
theorem at_ : FnAt Try.prog 75 Try.f75 := ⟨Try.func75, by kernel_rfl⟩
noncomputable def d0 := (Try.f75.body).getD .skip
noncomputable def r0 := kR d0
noncomputable def c0 : Code := .region 0 r0 false
theorem body : Try.f75.body = some c0 := by kernel_rfl
section
variable {base : Nat} {W0 : World} {β0 : Bt}
def f (k : Nat) (x0 : Sl) (x1 : Int) (S : HS) : Option ((Unit) × HS) :=
  (Option.bind (slices_rotateLeft_string.f k x0 (w64 ((Sl.len x0 : Int) - x1)) S) fun p1 =>
  some ((), p1.2))
theorem snd {k : Nat} {x0 : Sl} {x1 : Int} {S : HS}  {p : (Unit) × HS} (h : f k x0 x1 S = some p) : HCall Try.prog base W0 β0 75 [(Sl.hv x0), (.int .i64 x1)] S (fun v S1 => v = (.tup []) ∧ S1 = p.2) := by
  unfold f at h
  refine HCall.of_run at_.at_ body ?_
  show HRun Try.prog base W0 β0 75 none [.code c0] ⟨[(Sl.hv x0), (.int .i64 x1), τ, τ, τ, τ, τ, τ, τ, τ], []⟩ S _
  refine q_region rfl rfl ?_
  refine qS 4 rfl (ok_move · (.tmp rfl)) ?_
  refine qS 5 rfl (ok_move · (.tmp rfl)) ?_
  refine qS 6 rfl (ok_len_sl (q := Sl.a x0) (n := Sl.len x0) (z := Sl.cap x0) · rfl tu40 (.tmp rfl)) ?_
  refine qS 7 rfl (ok_move · (.tmp rfl)) ?_
  try dsimp only [w0, w1, w2, w3]
  refine qS 8 rfl (ok_ibin · (.tmp rfl) (.tmp rfl) rfl) ?_
  obtain ⟨p1, hp1, h⟩ := bindo h
  refine q_call (dst := some 9) rfl (.func _) (.cons (.tmp rfl) (.cons (.tmp rfl) Evs.nil)) (HInv.static slices_rotateLeft_string.at_ slices_rotateLeft_string.body (slices_rotateLeft_string.snd  hp1)) ?_
  rintro _ _ ⟨rfl, rfl⟩
  refine hr_region_end ?_
  try dsimp only [w0, w1, w2, w3]
  cases h
  exact q_end at_.at_ rfl (res0 rfl) ⟨rfl, rfl⟩
end
end slices_rotateRight_string
namespace slices_Insert_string_string
theorem at_ : FnAt Try.prog 64 Try.f64 := ⟨Try.func64, by kernel_rfl⟩
noncomputable def d0 := (Try.f64.body).getD .skip
noncomputable def r1 := kR (kA d0)
noncomputable def r3 := kR (kA (kB d0))
noncomputable def r5 := kR (kA (kB (kB d0)))
noncomputable def d6 := kB (kB (kB d0))
noncomputable def r8 := kR (kA (kA d6))
noncomputable def r11 := kR (kA (kA (kB (kA d6))))
noncomputable def r15 := kR (kA (kB d6))
noncomputable def r18 := kR (kA (kA (kB (kB d6))))
noncomputable def r21 := kR (kA (kA (kB (kA (kB (kB d6))))))
noncomputable def d24 := kB (kB (kB d6))
noncomputable def r26 := kR (kA (kA d24))
noncomputable def d28 := kA (kB (kA d24))
noncomputable def r29 := kR (kA d28)
noncomputable def r31 := kR (kA (kB d28))
noncomputable def r33 := kR (kA (kB (kB d28)))
noncomputable def r35 := kR (kA (kB (kB (kB d28))))
noncomputable def r39 := kR (kA (kB d24))
noncomputable def d41 := kA (kB (kB d24))
noncomputable def r42 := kR (kA d41)
noncomputable def r45 := kR (kA (kA (kB d41)))
noncomputable def r47 := kR (kA (kB (kA (kB d41))))
noncomputable def r49 := kR (kA (kB (kB (kA (kB d41)))))
noncomputable def r53 := kR (kA (kB (kB (kB d24))))
noncomputable def r55 := kR (kA (kB (kB (kB (kB d24)))))
noncomputable def r57 := kR (kA (kB (kB (kB (kB (kB d24))))))
noncomputable def c0 : Code := .seq (.region 0 r1 false) (.seq (.region 1 r3 false) (.seq (.region 2 r5 false) (.seq (.seq (.region 3 r8 false) (.cond (.tmp 16) (.seq (.region 4 r11 false) .ret) .skip)) (.seq (.region 5 r15 false) (.seq (.seq (.region 6 r18 false) (.cond (.tmp 22) (.seq (.region 7 r21 false) .ret) .skip)) (.seq (.seq (.region 8 r26 false) (.cond (.tmp 31) (.seq (.region 9 r29 false) (.seq (.region 10 r31 false) (.seq (.region 11 r33 true) (.seq (.region 12 r35 false) .ret)))) .skip)) (.seq (.region 13 r39 false) (.seq (.seq (.region 14 r42 false) (.cond (.tmp 68) (.seq (.region 15 r45 true) (.seq (.region 16 r47 false) (.seq (.region 17 r49 false) .ret))) .skip)) (.seq (.region 18 r53 false) (.seq (.region 19 r55 false) (.seq (.region 20 r57 false) .ret)))))))))))
theorem body : Try.f64.body = some c0 := by kernel_rfl
section
variable {base : Nat} {W0 : World} {β0 : Bt}
def f (k : Nat) (x0 : Sl) (x1 : Int) (x2 : Sl) (S : HS) : Option ((Sl) × HS) :=
  (Option.bind (HS.cut S x0 x1 (Sl.len x0 : Int) 1) fun p1 =>
  (if (Sl.len x2 : Int) = 0 then
  some (x0, S) else
  (if x1 = (Sl.len x0 : Int) then
  (Option.bind (HS.rows S x2 1) fun p4 =>
  (Option.bind (HS.app S x0 p4 1) fun p5 =>
  some ((p5.1), (p5.2)))) else
  (Option.bind (Sl.capOf x0) fun p6 =>
  (if (w64 ((Sl.len x0 : Int) + (Sl.len x2 : Int))) > p6 then
  (Option.bind (HS.cut S x0 0 x1 1) fun p8 =>
  (Option.bind (HS.appZ S p8 (w64 ((w64 ((Sl.len x0 : Int) + (Sl.len x2 : Int))) - x1)) [(.str [])] 1) fun p9 =>
  (Option.bind (HS.cut (p9.2) (p9.1) x1 (Sl.len (p9.1) : Int) 1) fun p10 =>
  (Option.bind (HS.rows (p9.2) x2 1) fun p11 =>
  (Option.bind (HS.over (p9.2) p10 (List.take (Sl.len p10) p11) 1) fun p12 =>
  (Option.bind (HS.cut p12 (p9.1) (w64 (x1 + (Sl.len x2 : Int))) (Sl.len (p9.1) : Int) 1) fun p13 =>
  (Option.bind (HS.cut p12 x0 x1 (Sl.len x0 : Int) 1) fun p14 =>
  (Option.bind (HS.rows p12 p14 1) fun p15 =>
  (Option.bind (HS.over p12 p13 (List.take (Sl.len p13) p15) 1) fun p16 =>
  some ((p9.1), p16)))))))))) else
  (Option.bind (HS.cut S x0 0 (w64 ((Sl.len x0 : Int) + (Sl.len x2 : Int))) 1) fun p17 =>
  (Option.bind (HS.cut S p17 (w64 (x1 + (Sl.len x2 : Int))) (Sl.len p17 : Int) 1) fun p18 =>
  (Option.bind (HS.ovl S x2 p18) fun p19 =>
  (if (!p19) = true then
  (Option.bind (HS.cut S p17 (w64 (x1 + (Sl.len x2 : Int))) (Sl.len p17 : Int) 1) fun p21 =>
  (Option.bind (HS.cut S p17 x1 (Sl.len p17 : Int) 1) fun p22 =>
  (Option.bind (HS.rows S p22 1) fun p23 =>
  (Option.bind (HS.over S p21 (List.take (Sl.len p21) p23) 1) fun p24 =>
  (Option.bind (HS.cut p24 p17 x1 (Sl.len p17 : Int) 1) fun p25 =>
  (Option.bind (HS.rows p24 x2 1) fun p26 =>
  (Option.bind (HS.over p24 p25 (List.take (Sl.len p25) p26) 1) fun p27 =>
  some (p17, p27)))))))) else
  (Option.bind (HS.cut S p17 (Sl.len x0 : Int) (Sl.len p17 : Int) 1) fun p28 =>
  (Option.bind (HS.rows S x2 1) fun p29 =>
  (Option.bind (HS.over S p28 (List.take (Sl.len p28) p29) 1) fun p30 =>
  (Option.bind (HS.cut p30 p17 x1 (Sl.len p17 : Int) 1) fun p31 =>
  (Option.bind (slices_rotateRight_string.f k p31 (Sl.len x2 : Int) p30) fun p32 =>
  some (p17, p32.2)))))))))))))))
theorem snd {k : Nat} {x0 : Sl} {x1 : Int} {x2 : Sl} {S : HS}  {p : (Sl) × HS} (h : f k x0 x1 x2 S = some p) : HCall Try.prog base W0 β0 64 [(Sl.hv x0), (.int .i64 x1), (Sl.hv x2)] S (fun v S1 => v = (Sl.hv p.1) ∧ S1 = p.2) := by
  unfold f at h
  refine HCall.of_run at_.at_ body ?_
  show HRun Try.prog base W0 β0 64 none [.code c0] ⟨[(Sl.hv x0), (.int .i64 x1), (Sl.hv x2), τ, τ, τ, τ, τ, τ, τ, τ, τ, τ, τ, τ, τ, τ, τ, τ, τ, τ, τ, τ, τ, τ, τ, τ, τ, τ, τ, τ, τ, τ, τ, τ, τ, τ, τ, τ, τ, τ, τ, τ, τ, τ, τ, τ, τ, τ, τ, τ, τ, τ, τ, τ, τ, τ, τ, τ, τ, τ, τ, τ, τ, τ, τ, τ, τ, τ, τ, τ, τ, τ, τ, τ, τ, τ, τ, τ, τ, τ, τ, τ, τ, τ, τ, τ, τ, τ, τ, τ, τ, τ, τ, τ], []⟩ S _
  refine q_seq rfl ?_
  refine q_region rfl rfl ?_
  refine qS 6 rfl (ok_assign · (.const fun _ => .slNil none)) ?_
  refine hr_region_end ?_
  try dsimp only [w0, w1, w2, w3]
  refine q_seq rfl ?_
  refine q_region rfl rfl ?_
  refine qS 10 rfl (ok_move · (.tmp rfl)) ?_
  refine qS 11 rfl (ok_move · (.tmp rfl)) ?_
  obtain ⟨p1, hp1, h⟩ := bindo h
  refine qS 12 rfl (ok_slice (kl := .i64) (kh := .i64) (s := x0) (l := x1) (h := (Sl.len x0 : Int)) · tu40 si9 (.tmp rfl) (.inr ⟨_, rfl, (.tmp rfl)⟩) (.inl ⟨rfl, rfl⟩) hp1) ?_
  refine hr_region_end ?_
  try dsimp only [w0, w1, w2, w3]
  refine q_seq rfl ?_
  refine q_region rfl rfl ?_
  refine qS 13 rfl (ok_move · (.tmp rfl)) ?_
  refine qS 14 rfl (ok_len_sl (q := Sl.a x2) (n := Sl.len x2) (z := Sl.cap x2) · rfl tu40 (.tmp rfl)) ?_
  refine qS 7 rfl (ok_assign · (.tmp rfl)) ?_
  refine hr_region_end ?_
  try dsimp only [w0, w1, w2, w3]
  refine q_seq rfl ?_
  refine q_seq rfl ?_
  refine q_region rfl rfl ?_
  refine qS 15 rfl (ok_move · (.tmp rfl)) ?_
  refine qS 16 rfl (ok_ibin · (.tmp rfl) (.int _ _) rfl) ?_
  refine hr_region_end ?_
  try dsimp only [w0, w1, w2, w3]
  rcases ifc h with ⟨hc2, h⟩ | ⟨hc2, h⟩
  · refine q_cond_t rfl (.tmp rfl) (decide_eq_true hc2) ?_
    refine q_seq rfl ?_
    refine q_region rfl rfl ?_
    refine qS 17 rfl (ok_move · (.tmp rfl)) ?_
    refine qS 6 rfl (ok_assign · (.tmp rfl)) ?_
    refine hr_region_end ?_
    try dsimp only [w0, w1, w2, w3]
    cases h
    exact q_ret rfl at_.at_ rfl (res1 rfl rfl) ⟨rfl, rfl⟩
  · refine q_cond_f rfl (.tmp rfl) (decide_eq_false hc2) ?_
    refine q_skipc rfl ?_
    refine q_seq rfl ?_
    refine q_region rfl rfl ?_
    refine qS 18 rfl (ok_move · (.tmp rfl)) ?_
    refine qS 19 rfl (ok_len_sl (q := Sl.a x0) (n := Sl.len x0) (z := Sl.cap x0) · rfl tu40 (.tmp rfl)) ?_
    refine qS 8 rfl (ok_assign · (.tmp rfl)) ?_
    refine hr_region_end ?_
    try dsimp only [w0, w1, w2, w3]
    refine q_seq rfl ?_
    refine q_seq rfl ?_
    refine q_region rfl rfl ?_
    refine qS 20 rfl (ok_move · (.tmp rfl)) ?_
    refine qS 21 rfl (ok_move · (.tmp rfl)) ?_
    refine qS 22 rfl (ok_ibin · (.tmp rfl) (.tmp rfl) rfl) ?_
    refine hr_region_end ?_
    try dsimp only [w0, w1, w2, w3]
    rcases ifc h with ⟨hc3, h⟩ | ⟨hc3, h⟩
    · refine q_cond_t rfl (.tmp rfl) (decide_eq_true hc3) ?_
      refine q_seq rfl ?_
      refine q_region rfl rfl ?_
      refine qS 23 rfl (ok_move · (.tmp rfl)) ?_
      refine qS 24 rfl (ok_move · (.tmp rfl)) ?_
      obtain ⟨p4, hp4, h⟩ := bindo h
      obtain ⟨p5, hp5, h⟩ := bindo h
      refine qS 25 rfl (ok_append (s := x0) (s1 := x2) el40 · rfl rfl ⟨_, tu40⟩ (.tmp rfl) (.tmp rfl) hp4 hp5) ?_
      refine qS 6 rfl (ok_assign · (.tmp rfl)) ?_
      refine hr_region_end ?_
      try dsimp only [w0, w1, w2, w3]
      cases h
      exact q_ret rfl at_.at_ rfl (res1 rfl rfl) ⟨rfl, rfl⟩
    · refine q_cond_f rfl (.tmp rfl) (decide_eq_false hc3) ?_
      refine q_skipc rfl ?_
      refine q_seq rfl ?_
      refine q_seq rfl ?_
      refine q_region rfl rfl ?_
      refine qS 26 rfl (ok_move · (.tmp rfl)) ?_
      refine qS 27 rfl (ok_move · (.tmp rfl)) ?_
      refine qS 28 rfl (ok_ibin · (.tmp rfl) (.tmp rfl) rfl) ?_
      refine qS 29 rfl (ok_move · (.tmp rfl)) ?_
      try dsimp only [w0, w1, w2, w3]
      obtain ⟨p6, hp6, h⟩ := bindo h
      refine qS 30 rfl (ok_cap (s := x0) · rfl tu40 (.tmp rfl) hp6) ?_
      refine qS 31 rfl (ok_ibin · (.tmp rfl) (.tmp rfl) rfl) ?_
      refine hr_region_end ?_
      try dsimp only [w0, w1, w2, w3]
      rcases ifc h with ⟨hc7, h⟩ | ⟨hc7, h⟩
      · refine q_cond_t rfl (.tmp rfl) (decide_eq_true hc7) ?_
        refine q_seq rfl ?_
        refine q_region rfl rfl ?_
        refine qS 32 rfl (ok_move · (.tmp rfl)) ?_
        refine qS 33 rfl (ok_move · (.tmp rfl)) ?_
        obtain ⟨p8, hp8, h⟩ := bindo h
        refine qS 34 rfl (ok_slice (kl := .i64) (kh := .i64) (s := x0) (l := 0) (h := x1) · tu40 si9 (.tmp rfl) (.inl ⟨rfl, rfl⟩) (.inr ⟨_, rfl, (.tmp rfl)⟩) hp8) ?_
        refine qS 35 rfl (ok_move · (.tmp rfl)) ?_
        try dsimp only [w0, w1, w2, w3]
        refine qS 36 rfl (ok_move · (.tmp rfl)) ?_
        refine qS 37 rfl (ok_ibin · (.tmp rfl) (.tmp rfl) rfl) ?_
        refine qS 38 rfl (ok_move · (.tmp rfl)) ?_
        refine qS 39 rfl (ok_ibin · (.tmp rfl) (.tmp rfl) rfl) ?_
        try dsimp only [w0, w1, w2, w3]
        obtain ⟨p9, hp9, h⟩ := bindo h
        refine qS 40 rfl (ok_append_zeros (s := p8) el40 · rfl rfl tu3 (.tmp rfl) (.tmp rfl) hp9) ?_
        refine qS 9 rfl (ok_assign · (.tmp rfl)) ?_
        refine hr_region_end ?_
        try dsimp only [w0, w1, w2, w3]
        refine q_seq rfl ?_
        refine q_region rfl rfl ?_
        refine qS 41 rfl (ok_move · (.tmp rfl)) ?_
        refine qS 42 rfl (ok_move · (.tmp rfl)) ?_
        obtain ⟨p10, hp10, h⟩ := bindo h
        refine qS 43 rfl (ok_slice (kl := .i64) (kh := .i64) (s := (p9.1)) (l := x1) (h := (Sl.len (p9.1) : Int)) · tu40 si9 (.tmp rfl) (.inr ⟨_, rfl, (.tmp rfl)⟩) (.inl ⟨rfl, rfl⟩) hp10) ?_
        refine qS 44 rfl (ok_move · (.tmp rfl)) ?_
        try dsimp only [w0, w1, w2, w3]
        obtain ⟨p11, hp11, h⟩ := bindo h
        obtain ⟨p12, hp12, h⟩ := bindo h
        refine qS 45 rfl (ok_copy (s := p10) (s1 := x2) el40 · rfl (.tmp rfl) (.tmp rfl) hp11 hp12) ?_
        refine hr_region_end ?_
        try dsimp only [w0, w1, w2, w3]
        refine q_seq rfl ?_
        refine x_start (cls := [0, 0, 0, 0, 1, 0, 0, 1, 2]) (rk := [0, 1, 2, 3, 4, 5, 6, 7, 8]) rfl (by kernel_rfl) ?_
        refine yf 46 [9] rfl (ok_move · (.tmp rfl)) ?_
        refine yf 47 [1] rfl (ok_move · (.tmp rfl)) ?_
        refine yf 48 [7] rfl (ok_move · (.tmp rfl)) ?_
        refine yf 49 [47, 48] rfl (ok_ibin · (.tmp rfl) (.tmp rfl) rfl) ?_
        try dsimp only [w0, w1, w2, w3]
        obtain ⟨p13, hp13, h⟩ := bindo h
        refine yr 50 [46, 49] rfl (ok_slice (kl := .i64) (kh := .i64) (s := (p9.1)) (l := (w64 (x1 + (Sl.len x2 : Int)))) (h := (Sl.len (p9.1) : Int)) · tu40 si9 (.tmp rfl) (.inr ⟨_, rfl, (.tmp rfl)⟩) (.inl ⟨rfl, rfl⟩) hp13) ?_
        refine yf 51 [0] rfl (ok_move · (.tmp rfl)) ?_
        refine yf 52 [1] rfl (ok_move · (.tmp rfl)) ?_
        obtain ⟨p14, hp14, h⟩ := bindo h
        refine yr 53 [51, 52] rfl (ok_slice (kl := .i64) (kh := .i64) (s := x0) (l := x1) (h := (Sl.len x0 : Int)) · tu40 si9 (.tmp rfl) (.inr ⟨_, rfl, (.tmp rfl)⟩) (.inl ⟨rfl, rfl⟩) hp14) ?_
        try dsimp only [w0, w1, w2, w3]
        obtain ⟨p15, hp15, h⟩ := bindo h
        obtain ⟨p16, hp16, h⟩ := bindo h
        refine ye 54 [50, 53] rfl (ok_copy (s := p13) (s1 := p14) el40 · rfl (.tmp rfl) (.tmp rfl) hp15 hp16) ?_
        refine x_rest rfl ?_
        refine hr_region_end ?_
        try dsimp only [w0, w1, w2, w3]
        refine q_seq rfl ?_
        refine q_region rfl rfl ?_
        refine qS 55 rfl (ok_move · (.tmp rfl)) ?_
        refine qS 6 rfl (ok_assign · (.tmp rfl)) ?_
        refine hr_region_end ?_
        try dsimp only [w0, w1, w2, w3]
        cases h
        exact q_ret rfl at_.at_ rfl (res1 rfl rfl) ⟨rfl, rfl⟩
      · refine q_cond_f rfl (.tmp rfl) (decide_eq_false hc7) ?_
        refine q_skipc rfl ?_
        refine q_seq rfl ?_
        refine q_region rfl rfl ?_
        refine qS 56 rfl (ok_move · (.tmp rfl)) ?_
        refine qS 57 rfl (ok_move · (.tmp rfl)) ?_
        refine qS 58 rfl (ok_move · (.tmp rfl)) ?_
        refine qS 59 rfl (ok_ibin · (.tmp rfl) (.tmp rfl) rfl) ?_
        try dsimp only [w0, w1, w2, w3]
        obtain ⟨p17, hp17, h⟩ := bindo h
        refine qS 60 rfl (ok_slice (kl := .i64) (kh := .i64) (s := x0) (l := 0) (h := (w64 ((Sl.len x0 : Int) + (Sl.len x2 : Int)))) · tu40 si9 (.tmp rfl) (.inl ⟨rfl, rfl⟩) (.inr ⟨_, rfl, (.tmp rfl)⟩) hp17) ?_
        refine qS 0 rfl (ok_assign · (.tmp rfl)) ?_
        refine hr_region_end ?_
        try dsimp only [w0, w1, w2, w3]
        refine q_seq rfl ?_
        refine q_seq rfl ?_
        refine q_region rfl rfl ?_
        refine qS 61 rfl (ok_move · (.tmp rfl)) ?_
        refine qS 62 rfl (ok_move · (.tmp rfl)) ?_
        refine qS 63 rfl (ok_move · (.tmp rfl)) ?_
        refine qS 64 rfl (ok_move · (.tmp rfl)) ?_
        try dsimp only [w0, w1, w2, w3]
        refine qS 65 rfl (ok_ibin · (.tmp rfl) (.tmp rfl) rfl) ?_
        obtain ⟨p18, hp18, h⟩ := bindo h
        refine qS 66 rfl (ok_slice (kl := .i64) (kh := .i64) (s := p17) (l := (w64 (x1 + (Sl.len x2 : Int)))) (h := (Sl.len p17 : Int)) · tu40 si9 (.tmp rfl) (.inr ⟨_, rfl, (.tmp rfl)⟩) (.inl ⟨rfl, rfl⟩) hp18) ?_
        obtain ⟨p19, hp19, h⟩ := bindo h
        refine qS 67 rfl (ok_overlaps (s1 := x2) (s2 := p18) · ext74 tu40 si9 (.tmp rfl) (.tmp rfl) hp19) ?_
        refine qS 68 rfl (ok_not · (.tmp rfl)) ?_
        refine hr_region_end ?_
        try dsimp only [w0, w1, w2, w3]
        rcases ifc h with ⟨hc20, h⟩ | ⟨hc20, h⟩
        · refine q_cond_t rfl (.tmp rfl) hc20 ?_
          refine q_seq rfl ?_
          refine x_start (cls := [0, 0, 0, 0, 1, 0, 0, 1, 2]) (rk := [0, 1, 2, 3, 4, 5, 6, 7, 8]) rfl (by kernel_rfl) ?_
          refine yf 69 [0] rfl (ok_move · (.tmp rfl)) ?_
          refine yf 70 [1] rfl (ok_move · (.tmp rfl)) ?_
          refine yf 71 [7] rfl (ok_move · (.tmp rfl)) ?_
          refine yf 72 [70, 71] rfl (ok_ibin · (.tmp rfl) (.tmp rfl) rfl) ?_
          try dsimp only [w0, w1, w2, w3]
          obtain ⟨p21, hp21, h⟩ := bindo h
          refine yr 73 [69, 72] rfl (ok_slice (kl := .i64) (kh := .i64) (s := p17) (l := (w64 (x1 + (Sl.len x2 : Int)))) (h := (Sl.len p17 : Int)) · tu40 si9 (.tmp rfl) (.inr ⟨_, rfl, (.tmp rfl)⟩) (.inl ⟨rfl, rfl⟩) hp21) ?_
          refine yf 74 [0] rfl (ok_move · (.tmp rfl)) ?_
          refine yf 75 [1] rfl (ok_move · (.tmp rfl)) ?_
          obtain ⟨p22, hp22, h⟩ := bindo h
          refine yr 76 [74, 75] rfl (ok_slice (kl := .i64) (kh := .i64) (s := p17) (l := x1) (h := (Sl.len p17 : Int)) · tu40 si9 (.tmp rfl) (.inr ⟨_, rfl, (.tmp rfl)⟩) (.inl ⟨rfl, rfl⟩) hp22) ?_
          try dsimp only [w0, w1, w2, w3]
          obtain ⟨p23, hp23, h⟩ := bindo h
          obtain ⟨p24, hp24, h⟩ := bindo h
          refine ye 77 [73, 76] rfl (ok_copy (s := p21) (s1 := p22) el40 · rfl (.tmp rfl) (.tmp rfl) hp23 hp24) ?_
          refine x_rest rfl ?_
          refine hr_region_end ?_
          try dsimp only [w0, w1, w2, w3]
          refine q_seq rfl ?_
          refine q_region rfl rfl ?_
          refine qS 78 rfl (ok_move · (.tmp rfl)) ?_
          refine qS 79 rfl (ok_move · (.tmp rfl)) ?_
          obtain ⟨p25, hp25, h⟩ := bindo h
          refine qS 80 rfl (ok_slice (kl := .i64) (kh := .i64) (s := p17) (l := x1) (h := (Sl.len p17 : Int)) · tu40 si9 (.tmp rfl) (.inr ⟨_, rfl, (.tmp rfl)⟩) (.inl ⟨rfl, rfl⟩) hp25) ?_
          refine qS 81 rfl (ok_move · (.tmp rfl)) ?_
          try dsimp only [w0, w1, w2, w3]
          obtain ⟨p26, hp26, h⟩ := bindo h
          obtain ⟨p27, hp27, h⟩ := bindo h
          refine qS 82 rfl (ok_copy (s := p25) (s1 := x2) el40 · rfl (.tmp rfl) (.tmp rfl) hp26 hp27) ?_
          refine hr_region_end ?_
          try dsimp only [w0, w1, w2, w3]
          refine q_seq rfl ?_
          refine q_region rfl rfl ?_
          refine qS 83 rfl (ok_move · (.tmp rfl)) ?_
          refine qS 6 rfl (ok_assign · (.tmp rfl)) ?_
          refine hr_region_end ?_
          try dsimp only [w0, w1, w2, w3]
          cases h
          exact q_ret rfl at_.at_ rfl (res1 rfl rfl) ⟨rfl, rfl⟩
        · refine q_cond_f rfl (.tmp rfl) (bfalse hc20) ?_
          refine q_skipc rfl ?_
          refine q_seq rfl ?_
          refine q_region rfl rfl ?_
          refine qS 84 rfl (ok_move · (.tmp rfl)) ?_
          refine qS 85 rfl (ok_move · (.tmp rfl)) ?_
          obtain ⟨p28, hp28, h⟩ := bindo h
          refine qS 86 rfl (ok_slice (kl := .i64) (kh := .i64) (s := p17) (l := (Sl.len x0 : Int)) (h := (Sl.len p17 : Int)) · tu40 si9 (.tmp rfl) (.inr ⟨_, rfl, (.tmp rfl)⟩) (.inl ⟨rfl, rfl⟩) hp28) ?_
          refine qS 87 rfl (ok_move · (.tmp rfl)) ?_
          try dsimp only [w0, w1, w2, w3]
          obtain ⟨p29, hp29, h⟩ := bindo h
          obtain ⟨p30, hp30, h⟩ := bindo h
          refine qS 88 rfl (ok_copy (s := p28) (s1 := x2) el40 · rfl (.tmp rfl) (.tmp rfl) hp29 hp30) ?_
          refine hr_region_end ?_
          try dsimp only [w0, w1, w2, w3]
          refine q_seq rfl ?_
          refine q_region rfl rfl ?_
          refine qS 89 rfl (ok_move · (.tmp rfl)) ?_
          refine qS 90 rfl (ok_move · (.tmp rfl)) ?_
          obtain ⟨p31, hp31, h⟩ := bindo h
          refine qS 91 rfl (ok_slice (kl := .i64) (kh := .i64) (s := p17) (l := x1) (h := (Sl.len p17 : Int)) · tu40 si9 (.tmp rfl) (.inr ⟨_, rfl, (.tmp rfl)⟩) (.inl ⟨rfl, rfl⟩) hp31) ?_
          refine qS 92 rfl (ok_move · (.tmp rfl)) ?_
          try dsimp only [w0, w1, w2, w3]
          obtain ⟨p32, hp32, h⟩ := bindo h
          refine q_call (dst := some 93) rfl (.func _) (.cons (.tmp rfl) (.cons (.tmp rfl) Evs.nil)) (HInv.static slices_rotateRight_string.at_ slices_rotateRight_string.body (slices_rotateRight_string.snd  hp32)) ?_
          rintro _ _ ⟨rfl, rfl⟩
          refine hr_region_end ?_
          try dsimp only [w0, w1, w2, w3]
          refine q_seq rfl ?_
          refine q_region rfl rfl ?_
          refine qS 94 rfl (ok_move · (.tmp rfl)) ?_
          refine qS 6 rfl (ok_assign · (.tmp rfl)) ?_
          refine hr_region_end ?_
          try dsimp only [w0, w1, w2, w3]
          cases h
          exact q_ret rfl at_.at_ rfl (res1 rfl rfl) ⟨rfl, rfl⟩
end
end slices_Insert_string_string
namespace slices_Insert_string_string_w
theorem at_ : FnAt Try.prog 64 Try.f64 := slices_Insert_string_string.at_
theorem body : Try.f64.body = some slices_Insert_string_string.c0 := slices_Insert_string_string.body
def f (x0 : Sl) (x1 : Int) (x2 : Sl) (S : HS) : Option ((Sl) × HS) := HS.ins S x0 x1 x2 1
theorem snd {base : Nat} {W0 : World} {β0 : Bt} {x0 : Sl} {x1 : Int} {x2 : Sl} {S : HS} {p : (Sl) × HS} (h : f x0 x1 x2 S = some p) : HCall Try.prog base W0 β0 64 [(Sl.hv x0), (.int .i64 x1), (Sl.hv x2)] S (fun v S1 => v = (Sl.hv p.1) ∧ S1 = p.2) :=
  ins_snd (rot := fun a b T => slices_rotateRight_string.f 0 a b T) (zr := [(.str [])]) (fun _ _ _ h => slices_Insert_string_string.snd (k := 0) h) h
end slices_Insert_string_string_w
namespace set_Set_string_Add
theorem at_ : FnAt Try.prog 51 Try.f51 := ⟨Try.func51, by kernel_rfl⟩
noncomputable def d0 := (Try.f51.body).getD .skip
noncomputable def r1 := kR (kA d0)
noncomputable def r3 := kR (kA (kB d0))
noncomputable def r6 := kR (kA (kA (kB (kB d0))))
noncomputable def r9 := kR (kA (kA (kB (kA (kB (kB d0))))))
noncomputable def d12 := kB (kB (kB d0))
noncomputable def r14 := kR (kA (kA d12))
noncomputable def d16 := kA (kB (kA d12))
noncomputable def r18 := kR (kA (kA d16))
noncomputable def d23 := kB (kB (kA d16))
noncomputable def r26 := kR (kA (kA (kA d23)))
noncomputable def d27 := kB (kA (kA d23))
noncomputable def r28 := kR (kA d27)
noncomputable def r30 := kR (kA (kB d27))
noncomputable def r33 := kR (kA (kA (kB (kB d27))))
noncomputable def r34 := kR (kB (kA (kB (kB d27))))
noncomputable def r36 := kR (kB d23)
noncomputable def r38 := kR (kA (kB d12))
noncomputable def c37 : Code := .seq (.region 12 r38 false) .ret
noncomputable def c36 : Code := .region 11 r36 false
noncomputable def c17 : Code := .seq (.region 5 r18 false) (.seq (.cond (.tmp 15) .skip (.exit 0)) (.seq (.block 1 (.seq (.region 6 r26 false) (.seq (.region 7 r28 false) (.seq (.region 8 r30 false) (.cond (.tmp 28) (.seq (.region 9 r33 false) (.region 10 r34 false)) .skip))))) c36))
noncomputable def c0 : Code := .seq (.region 0 r1 false) (.seq (.region 1 r3 false) (.seq (.seq (.region 2 r6 false) (.cond (.tmp 11) (.seq (.region 3 r9 false) .ret) .skip)) (.seq (.seq (.region 4 r14 false) (.block 0 (.loop c17))) c37)))
theorem body : Try.f51.body = some c0 := by kernel_rfl
section
variable {base : Nat} {W0 : World} {β0 : Bt}
def J1 (k : Nat) (rec0 : (Option HA) → Int → Sl → Int → Int → HS → Option ((Int) × HS)) (y0 : (Option HA)) (y5 : Int) (y12 : Sl) (y13 : Int) (y14 : Int) (S : HS) : Option ((Int) × HS) :=
  rec0 y0 y5 y12 y13 (w64 (y14 + 1)) S
theorem J1_snd {k : Nat} {rec0 : (Option HA) → Int → Sl → Int → Int → HS → Option ((Int) × HS)} (hrec0 : ∀ ⦃y0 : (Option HA)⦄ ⦃y5 : Int⦄ ⦃y12 : Sl⦄ ⦃y13 : Int⦄ ⦃y14 : Int⦄ ⦃S : HS⦄ ⦃p : (Int) × HS⦄ ⦃g1 g2 g3 g4 g6 g7 g8 g9 g10 g11 g15 g16 g17 g18 g19 g20 g21 g22 g23 g24 g25 g26 g27 g28 g29 g30 g31 g32 g33 g34 g35 g36 g37 g38 g39 g40 g41 g42 g43 : HV⦄, rec0 y0 y5 y12 y13 y14 S = some p → HRun Try.prog base W0 β0 51 none [.inLoop c17, .inBlock 0, .code c37] ⟨[(.ptr y0), g1, g2, g3, g4, (.int .i64 y5), g6, g7, g8, g9, g10, g11, (Sl.hv y12), (.int .i64 y13), (.int .i64 y14), g15, g16, g17, g18, g19, g20, g21, g22, g23, g24, g25, g26, g27, g28, g29, g30, g31, g32, g33, g34, g35, g36, g37, g38, g39, g40, g41, g42, g43], []⟩ S (fun v S1 => v = (.int .i64 p.1) ∧ S1 = p.2)) {y0 : (Option HA)} {y5 : Int} {y12 : Sl} {y13 : Int} {y14 : Int} {S : HS} {p : (Int) × HS} {g1 g2 g3 g4 g6 g7 g8 g9 g10 g11 g15 g16 g17 g18 g19 g20 g21 g22 g23 g24 g25 g26 g27 g28 g29 g30 g31 g32 g33 g34 g35 g36 g37 g38 g39 g40 g41 g42 g43 : HV} (h : J1 k rec0 y0 y5 y12 y13 y14 S = some p) : HRun Try.prog base W0 β0 51 none [.code c36, .inLoop c17, .inBlock 0, .code c37] ⟨[(.ptr y0), g1, g2, g3, g4, (.int .i64 y5), g6, g7, g8, g9, g10, g11, (Sl.hv y12), (.int .i64 y13), (.int .i64 y14), g15, g16, g17, g18, g19, g20, g21, g22, g23, g24, g25, g26, g27, g28, g29, g30, g31, g32, g33, g34, g35, g36, g37, g38, g39, g40, g41, g42, g43], []⟩ S (fun v S1 => v = (.int .i64 p.1) ∧ S1 = p.2) := by
  unfold J1 at h
  refine q_region rfl rfl ?_
  refine qS 42 rfl (ok_ibin · (.tmp rfl) (.int _ _) rfl) ?_
  refine qS 14 rfl (ok_move · (.tmp rfl)) ?_
  refine hr_region_end ?_
  try dsimp only [w0, w1, w2, w3]
  try dsimp only [w0, w1, w2, w3]
  exact hrec0 h
def L0 (k : Nat) : Nat → (Option HA) → Int → Sl → Int → Int → HS → Option ((Int) × HS)
  | 0, _, _, _, _, _, _ => none
  | n + 1, y0, y5, y12, y13, y14, S =>
    (if y14 < y13 then
    (Option.bind (HS.idx S y12 y14 1) fun p3 =>
    (Option.bind (HS.ldS S p3) fun p4 =>
    (Option.bind (y0) fun p5 =>
    (Option.bind (HS.ldSl S (HA.fld p5 0)) fun p6 =>
    (Option.bind (slices_BinarySearch_string_string.f k p6 p4 S) fun p7 =>
    (if (!p7.1.2) = true then
    (Option.bind (y0) fun p9 =>
    (Option.bind (HS.ldSl p7.2 (HA.fld p9 0)) fun p10 =>
    (letv (HS.lit p7.2 [[(.str p4)]] 1) fun p11 =>
    (Option.bind (slices_Insert_string_string_w.f p10 p7.1.1 (p11.1) (p11.2)) fun p12 =>
    (Option.bind (y0) fun p13 =>
    (Option.bind (HS.sets p12.2 (HA.fld p13 0) [(Sl.hv p12.1)]) fun p14 =>
    J1 k (L0 k n) y0 (w64 (y5 + 1)) y12 y13 y14 p14)))))) else
    J1 k (L0 k n) y0 y5 y12 y13 y14 p7.2)))))) else
    some (y5, S))
theorem L0_snd {k : Nat}  : ∀ {n : Nat} ⦃y0 : (Option HA)⦄ ⦃y5 : Int⦄ ⦃y12 : Sl⦄ ⦃y13 : Int⦄ ⦃y14 : Int⦄ ⦃S : HS⦄ ⦃p : (Int) × HS⦄ ⦃g1 g2 g3 g4 g6 g7 g8 g9 g10 g11 g15 g16 g17 g18 g19 g20 g21 g22 g23 g24 g25 g26 g27 g28 g29 g30 g31 g32 g33 g34 g35 g36 g37 g38 g39 g40 g41 g42 g43 : HV⦄, L0 k n y0 y5 y12 y13 y14 S = some p → HRun Try.prog base W0 β0 51 none [.inLoop c17, .inBlock 0, .code c37] ⟨[(.ptr y0), g1, g2, g3, g4, (.int .i64 y5), g6, g7, g8, g9, g10, g11, (Sl.hv y12), (.int .i64 y13), (.int .i64 y14), g15, g16, g17, g18, g19, g20, g21, g22, g23, g24, g25, g26, g27, g28, g29, g30, g31, g32, g33, g34, g35, g36, g37, g38, g39, g40, g41, g42, g43], []⟩ S (fun v S1 => v = (.int .i64 p.1) ∧ S1 = p.2) := by
  intro n
  induction n with
  | zero => intro _ _ _ _ _ _ _ _ _ _ _ _ _ _ _ _ _ _ _ _ _ _ _ _ _ _ _ _ _ _ _ _ _ _ _ _ _ _ _ _ _ _ _ _ _ _ h; cases h
  | succ n ih =>
    intro y0 y5 y12 y13 y14 S p g1 g2 g3 g4 g6 g7 g8 g9 g10 g11 g15 g16 g17 g18 g19 g20 g21 g22 g23 g24 g25 g26 g27 g28 g29 g30 g31 g32 g33 g34 g35 g36 g37 g38 g39 g40 g41 g42 g43 h
    simp only [L0] at h
    refine hr_inLoop ?_
    refine q_seq rfl ?_
    refine q_region rfl rfl ?_
    refine qS 15 rfl (ok_ibin · (.tmp rfl) (.tmp rfl) rfl) ?_
    refine hr_region_end ?_
    try dsimp only [w0, w1, w2, w3]
    refine q_seq rfl ?_
    rcases ifc h with ⟨hc2, h⟩ | ⟨hc2, h⟩
    · refine q_cond_t rfl (.tmp rfl) (decide_eq_true hc2) ?_
      refine q_skipc rfl ?_
      refine q_seq rfl ?_
      refine q_block rfl ?_
      refine q_seq rfl ?_
      refine q_region rfl rfl ?_
      obtain ⟨p3, hp3, h⟩ := bindo h
      refine qS 16 rfl (ok_indexAddr (s := y12) · tu40 sz9 (.tmp rfl) (.tmp rfl) hp3) ?_
      obtain ⟨p4, hp4, h⟩ := bindo h
      refine qS 17 rfl (ok_load_s · sc9 (.tmp rfl) rfl (ldS_out hp4)) ?_
      refine qS 7 rfl (ok_assign · (.tmp rfl)) ?_
      refine hr_region_end ?_
      try dsimp only [w0, w1, w2, w3]
      refine q_seq rfl ?_
      refine q_region rfl rfl ?_
      refine qS 19 rfl (ok_move · (.tmp rfl)) ?_
      obtain ⟨p5, hp5, h⟩ := bindo h
      refine qS 20 rfl (ok_nilCheck_p · (.tmp rfl) hp5) ?_
      refine qS 21 rfl (ok_fieldAddr_s · fi93_0 (by decide) (.tmp rfl) rfl) ?_
      obtain ⟨p6, hp6, h⟩ := bindo h
      refine qS 22 rfl (ok_load_s · sc40 (.tmp rfl) rfl (ldSl_out hp6)) ?_
      try dsimp only [w0, w1, w2, w3]
      refine qS 23 rfl (ok_move · (.tmp rfl)) ?_
      obtain ⟨p7, hp7, h⟩ := bindo h
      refine q_call (dst := some 24) rfl (.func _) (.cons (.tmp rfl) (.cons (.tmp rfl) Evs.nil)) (HInv.static slices_BinarySearch_string_string.at_ slices_BinarySearch_string_string.body (slices_BinarySearch_string_string.snd  hp7)) ?_
      rintro _ _ ⟨rfl, rfl⟩
      refine qS 18 rfl (ok_move · (.tmp rfl)) ?_
      refine qS 25 rfl (ok_extract · (.tmp rfl) rfl) ?_
      try dsimp only [w0, w1, w2, w3]
      refine qS 26 rfl (ok_extract · (.tmp rfl) rfl) ?_
      refine qS 8 rfl (ok_assign · (.tmp rfl)) ?_
      refine qS 9 rfl (ok_assign · (.tmp rfl)) ?_
      refine hr_region_end ?_
      try dsimp only [w0, w1, w2, w3]
      refine q_seq rfl ?_
      refine q_region rfl rfl ?_
      refine qS 27 rfl (ok_move · (.tmp rfl)) ?_
      refine qS 28 rfl (ok_not · (.tmp rfl)) ?_
      refine hr_region_end ?_
      try dsimp only [w0, w1, w2, w3]
      rcases ifc h with ⟨hc8, h⟩ | ⟨hc8, h⟩
      · refine q_cond_t rfl (.tmp rfl) hc8 ?_
        refine q_seq rfl ?_
        refine q_region rfl rfl ?_
        refine qS 29 rfl (ok_move · (.tmp rfl)) ?_
        refine qS 30 rfl (ok_move · (.tmp rfl)) ?_
        obtain ⟨p9, hp9, h⟩ := bindo h
        refine qS 31 rfl (ok_nilCheck_p · (.tmp rfl) hp9) ?_
        refine qS 32 rfl (ok_fieldAddr_s · fi93_0 (by decide) (.tmp rfl) rfl) ?_
        try dsimp only [w0, w1, w2, w3]
        obtain ⟨p10, hp10, h⟩ := bindo h
        refine qS 33 rfl (ok_load_s · sc40 (.tmp rfl) rfl (ldSl_out hp10)) ?_
        refine qS 34 rfl (ok_move · (.tmp rfl)) ?_
        refine qS 35 rfl (ok_move · (.tmp rfl)) ?_
        obtain ⟨p11, hp11, h⟩ := leto h
        refine qS 36 rfl (ok_buildSlice_s (xs := [(.tmp 35)]) el40 · rfl rfl (by decide) (.cons (.tmp rfl) Evs.nil) rfl rfl hp11) ?_
        try dsimp only [w0, w1, w2, w3]
        obtain ⟨p12, hp12, h⟩ := bindo h
        refine q_call (dst := some 37) rfl (.func _) (.cons (.tmp rfl) (.cons (.tmp rfl) (.cons (.tmp rfl) Evs.nil))) (HInv.static slices_Insert_string_string_w.at_ slices_Insert_string_string_w.body (slices_Insert_string_string_w.snd  hp12)) ?_
        rintro _ _ ⟨rfl, rfl⟩
        obtain ⟨p13, hp13, h⟩ := bindo h
        refine qS 38 rfl (ok_nilCheck_p · (.tmp rfl) hp13) ?_
        refine qS 39 rfl (ok_fieldAddr_s · fi93_0 (by decide) (.tmp rfl) rfl) ?_
        obtain ⟨p14, hp14, h⟩ := bindo h
        refine qN rfl (ok_store_s (v := (Sl.hv p12.1)) · sz40 (.tmp rfl) rfl (.tmp rfl) rfl hp14) ?_
        refine hr_region_end ?_
        try dsimp only [w0, w1, w2, w3]
        refine q_region rfl rfl ?_
        refine qS 40 rfl (ok_move · (.tmp rfl)) ?_
        refine qS 41 rfl (ok_ibin · (.tmp rfl) (.int _ _) rfl) ?_
        refine qS 5 rfl (ok_assign · (.tmp rfl)) ?_
        refine hr_region_end ?_
        try dsimp only [w0, w1, w2, w3]
        refine hr_inBlock ?_
        try dsimp only [w0, w1, w2, w3]
        exact J1_snd ih h
      · refine q_cond_f rfl (.tmp rfl) (bfalse hc8) ?_
        refine q_skipc rfl ?_
        refine hr_inBlock ?_
        try dsimp only [w0, w1, w2, w3]
        exact J1_snd ih h
    · refine q_cond_f rfl (.tmp rfl) (decide_eq_false hc2) ?_
      refine q_exit rfl rfl ?_
      refine q_seq rfl ?_
      refine q_region rfl rfl ?_
      refine qS 43 rfl (ok_move · (.tmp rfl)) ?_
      refine qS 4 rfl (ok_assign · (.tmp rfl)) ?_
      refine hr_region_end ?_
      try dsimp only [w0, w1, w2, w3]
      cases h
      exact q_ret rfl at_.at_ rfl (res1 rfl rfl) ⟨rfl, rfl⟩
def f (k : Nat) (x0 : (Option HA)) (x1 : Sl) (S : HS) : Option ((Int) × HS) :=
  (if (Option.isNone x0) = true then
  some (0, S) else
  L0 k k x0 0 x1 (Sl.len x1 : Int) 0 S)
theorem snd {k : Nat} {x0 : (Option HA)} {x1 : Sl} {S : HS}  {p : (Int) × HS} (h : f k x0 x1 S = some p) : HCall Try.prog base W0 β0 51 [(.ptr x0), (Sl.hv x1)] S (fun v S1 => v = (.int .i64 p.1) ∧ S1 = p.2) := by
  unfold f at h
  refine HCall.of_run at_.at_ body ?_
  show HRun Try.prog base W0 β0 51 none [.code c0] ⟨[(.ptr x0), (Sl.hv x1), τ, τ, τ, τ, τ, τ, τ, τ, τ, τ, τ, τ, τ, τ, τ, τ, τ, τ, τ, τ, τ, τ, τ, τ, τ, τ, τ, τ, τ, τ, τ, τ, τ, τ, τ, τ, τ, τ, τ, τ, τ, τ], []⟩ S _
  refine q_seq rfl ?_
  refine q_region rfl rfl ?_
  refine qS 4 rfl (ok_assign · (.int _ _)) ?_
  refine hr_region_end ?_
  try dsimp only [w0, w1, w2, w3]
  refine q_seq rfl ?_
  refine q_region rfl rfl ?_
  refine qS 5 rfl (ok_assign · (.int _ _)) ?_
  refine hr_region_end ?_
  try dsimp only [w0, w1, w2, w3]
  refine q_seq rfl ?_
  refine q_seq rfl ?_
  refine q_region rfl rfl ?_
  refine qS 10 rfl (ok_move · (.tmp rfl)) ?_
  refine qS 11 rfl (ok_nil_ptr · tu75 (.tmp rfl) (.inl ⟨rfl, rfl⟩)) ?_
  refine hr_region_end ?_
  try dsimp only [w0, w1, w2, w3]
  rcases ifc h with ⟨hc1, h⟩ | ⟨hc1, h⟩
  · refine q_cond_t rfl (.tmp rfl) hc1 ?_
    refine q_seq rfl ?_
    refine q_region rfl rfl ?_
    refine qS 4 rfl (ok_assign · (.int _ _)) ?_
    refine hr_region_end ?_
    try dsimp only [w0, w1, w2, w3]
    cases h
    exact q_ret rfl at_.at_ rfl (res1 rfl rfl) ⟨rfl, rfl⟩
  · refine q_cond_f rfl (.tmp rfl) (bfalse hc1) ?_
    refine q_skipc rfl ?_
    refine q_seq rfl ?_
    refine q_seq rfl ?_
    refine q_region rfl rfl ?_
    refine qS 12 rfl (ok_move · (.tmp rfl)) ?_
    refine qS 13 rfl (ok_len_sl (q := Sl.a x1) (n := Sl.len x1) (z := Sl.cap x1) · rfl tu40 (.tmp rfl)) ?_
    refine qS 14 rfl (ok_move · (.int _ _)) ?_
    refine hr_region_end ?_
    try dsimp only [w0, w1, w2, w3]
    refine q_block rfl ?_
    refine q_loop rfl ?_
    try dsimp only [w0, w1, w2, w3]
    exact L0_snd  h
end
end set_Set_string_Add
namespace set_Of_string
theorem at_ : FnAt Try.prog 50 Try.f50 := ⟨Try.func50, by kernel_rfl⟩
noncomputable def d0 := (Try.f50.body).getD .skip
noncomputable def r1 := kR (kA d0)
noncomputable def r3 := kR (kA (kB d0))
noncomputable def r5 := kR (kA (kB (kB d0)))
noncomputable def r7 := kR (kA (kB (kB (kB d0))))
noncomputable def c0 : Code := .seq (.region 0 r1 false) (.seq (.region 1 r3 false) (.seq (.region 2 r5 false) (.seq (.region 3 r7 false) .ret)))
theorem body : Try.f50.body = some c0 := by kernel_rfl
section
variable {base : Nat} {W0 : World} {β0 : Bt}
def f (k : Nat) (x0 : Sl) (S : HS) : Option (((Option HA)) × HS) :=
  (letv (HS.new S (.cells 1 [[(Sl.hv Sl.nil)]] true)) fun p1 =>
  (Option.bind (set_Set_string_Add.f k (some (HA.cell0 S.next)) x0 p1) fun p2 =>
  some ((some (HA.cell0 S.next)), p2.2)))
theorem snd {k : Nat} {x0 : Sl} {S : HS}  {p : ((Option HA)) × HS} (h : f k x0 S = some p) : HCall Try.prog base W0 β0 50 [(Sl.hv x0)] S (fun v S1 => v = (.ptr p.1) ∧ S1 = p.2) := by
  unfold f at h
  refine HCall.of_run at_.at_ body ?_
  show HRun Try.prog base W0 β0 50 none [.code c0] ⟨[(Sl.hv x0), τ, τ, τ, τ, τ, τ, τ, τ, τ], []⟩ S _
  refine q_seq rfl ?_
  refine q_region rfl rfl ?_
  refine qS 2 rfl (ok_assign · (.const fun _ => .ptrNil)) ?_
  refine hr_region_end ?_
  try dsimp only [w0, w1, w2, w3]
  refine q_seq rfl ?_
  refine q_region rfl rfl ?_
  refine qS 4 rfl (ok_build (is := []) (xs := []) (r := [(Sl.hv Sl.nil)]) st93 · rfl rfl Evs.nil rfl) ?_
  obtain ⟨p1, hp1, h⟩ := leto h
  refine qS 5 rfl (ok_box_e · (.tmp rfl) (Nat.zero_lt_succ _) rfl hp1) ?_
  refine qS 3 rfl (ok_assign · (.tmp rfl)) ?_
  refine hr_region_end ?_
  try dsimp only [w0, w1, w2, w3]
  refine q_seq rfl ?_
  refine q_region rfl rfl ?_
  refine qS 6 rfl (ok_move · (.tmp rfl)) ?_
  refine qS 7 rfl (ok_move · (.tmp rfl)) ?_
  obtain ⟨p2, hp2, h⟩ := bindo h
  refine q_call (dst := some 8) rfl (.func _) (.cons (.tmp rfl) (.cons (.tmp rfl) Evs.nil)) (HInv.static set_Set_string_Add.at_ set_Set_string_Add.body (set_Set_string_Add.snd  hp2)) ?_
  rintro _ _ ⟨rfl, rfl⟩
  refine hr_region_end ?_
  try dsimp only [w0, w1, w2, w3]
  refine q_seq rfl ?_
  refine q_region rfl rfl ?_
  refine qS 9 rfl (ok_move · (.tmp rfl)) ?_
  refine qS 2 rfl (ok_assign · (.tmp rfl)) ?_
  refine hr_region_end ?_
  try dsimp only [w0, w1, w2, w3]
  cases h
  exact q_ret rfl at_.at_ rfl (res1 rfl rfl) ⟨rfl, rfl⟩
end
end set_Of_string
namespace pair_put_int_string
theorem at_ : FnAt Try.prog 33 Try.f33 := ⟨Try.func33, by kernel_rfl⟩
noncomputable def d0 := (Try.f33.body).getD .skip
noncomputable def r2 := kR (kA (kA d0))
noncomputable def r4 := kR (kA (kB (kA d0)))
noncomputable def r6 := kR (kB d0)
noncomputable def c6 : Code := .region 2 r6 false
noncomputable def c0 : Code := .seq (.seq (.region 0 r2 false) (.cond (.tmp 9) (.region 1 r4 false) .skip)) c6
theorem body : Try.f33.body = some c0 := by kernel_rfl
section
variable {base : Nat} {W0 : World} {β0 : Bt}
def J0 (k : Nat) (y0 : (Option Nat)) (y1 : Int) (y2 : (List UInt8)) (S : HS) : Option ((Unit) × HS) :=
  (Option.bind (HS.look S y0 (.int .i64 y1)) fun p6 =>
  (Option.bind (dP (Option.getD p6 (.ptr none))) fun p7 =>
  (letv (HS.lit S [[(.str y2)]] 1) fun p8 =>
  (Option.bind (set_Set_string_Add.f k p7 (p8.1) (p8.2)) fun p9 =>
  some ((), p9.2)))))
theorem J0_snd {k : Nat}  {y0 : (Option Nat)} {y1 : Int} {y2 : (List UInt8)} {S : HS} {p : (Unit) × HS} {g3 g4 g5 g6 g7 g8 g9 g10 g11 g12 g13 g14 g15 g16 g17 g18 : HV} (h : J0 k y0 y1 y2 S = some p) : HRun Try.prog base W0 β0 33 none [.code c6] ⟨[(.map y0), (.int .i64 y1), (.str y2), g3, g4, g5, g6, g7, g8, g9, g10, g11, g12, g13, g14, g15, g16, g17, g18], []⟩ S (fun v S1 => v = (.tup []) ∧ S1 = p.2) := by
  unfold J0 at h
  refine q_region rfl rfl ?_
  refine qS 13 rfl (ok_move · (.tmp rfl)) ?_
  refine qS 14 rfl (ok_move · (.tmp rfl)) ?_
  obtain ⟨p6, hp6, h⟩ := bindo h
  obtain ⟨p7, hp7, h⟩ := bindo h
  refine qS 15 rfl (ok_lookup · tu63 zi75 (fun β => .ptrNil) (keyInt tu3) (.tmp rfl) (.tmp rfl) hp6 (dP_out hp7)) ?_
  refine qS 16 rfl (ok_move · (.tmp rfl)) ?_
  try dsimp only [w0, w1, w2, w3]
  obtain ⟨p8, hp8, h⟩ := leto h
  refine qS 17 rfl (ok_buildSlice_s (xs := [(.tmp 16)]) el40 · rfl rfl (by decide) (.cons (.tmp rfl) Evs.nil) rfl rfl hp8) ?_
  obtain ⟨p9, hp9, h⟩ := bindo h
  refine q_call (dst := some 18) rfl (.func _) (.cons (.tmp rfl) (.cons (.tmp rfl) Evs.nil)) (HInv.static set_Set_string_Add.at_ set_Set_string_Add.body (set_Set_string_Add.snd  hp9)) ?_
  rintro _ _ ⟨rfl, rfl⟩
  refine hr_region_end ?_
  try dsimp only [w0, w1, w2, w3]
  cases h
  exact q_end at_.at_ rfl (res0 rfl) ⟨rfl, rfl⟩
def f (k : Nat) (x0 : (Option Nat)) (x1 : Int) (x2 : (List UInt8)) (S : HS) : Option ((Unit) × HS) :=
  (Option.bind (HS.look S x0 (.int .i64 x1)) fun p1 =>
  (Option.bind (dP (Option.getD p1 (.ptr none))) fun p2 =>
  (if (Option.isNone p2) = true then
  (Option.bind (set_Of_string.f k Sl.nil S) fun p4 =>
  (Option.bind (HS.mput p4.2 x0 (.int .i64 x1) (.ptr p4.1)) fun p5 =>
  J0 k x0 x1 x2 p5)) else
  J0 k x0 x1 x2 S)))
theorem snd {k : Nat} {x0 : (Option Nat)} {x1 : Int} {x2 : (List UInt8)} {S : HS}  {p : (Unit) × HS} (h : f k x0 x1 x2 S = some p) : HCall Try.prog base W0 β0 33 [(.map x0), (.int .i64 x1), (.str x2)] S (fun v S1 => v = (.tup []) ∧ S1 = p.2) := by
  unfold f at h
  refine HCall.of_run at_.at_ body ?_
  show HRun Try.prog base W0 β0 33 none [.code c0] ⟨[(.map x0), (.int .i64 x1), (.str x2), τ, τ, τ, τ, τ, τ, τ, τ, τ, τ, τ, τ, τ, τ, τ, τ], []⟩ S _
  refine q_seq rfl ?_
  refine q_seq rfl ?_
  refine q_region rfl rfl ?_
  refine qS 6 rfl (ok_move · (.tmp rfl)) ?_
  refine qS 7 rfl (ok_move · (.tmp rfl)) ?_
  obtain ⟨p1, hp1, h⟩ := bindo h
  obtain ⟨p2, hp2, h⟩ := bindo h
  refine qS 8 rfl (ok_lookup · tu63 zi75 (fun β => .ptrNil) (keyInt tu3) (.tmp rfl) (.tmp rfl) hp1 (dP_out hp2)) ?_
  refine qS 9 rfl (ok_nil_ptr · tu75 (.tmp rfl) (.inl ⟨rfl, rfl⟩)) ?_
  refine hr_region_end ?_
  try dsimp only [w0, w1, w2, w3]
  rcases ifc h with ⟨hc3, h⟩ | ⟨hc3, h⟩
  · refine q_cond_t rfl (.tmp rfl) hc3 ?_
    refine q_region rfl rfl ?_
    refine qS 10 rfl (ok_move · (.tmp rfl)) ?_
    refine qS 11 rfl (ok_move · (.tmp rfl)) ?_
    obtain ⟨p4, hp4, h⟩ := bindo h
    refine q_call (dst := some 12) rfl (.func _) (.cons (.const fun _ => .slNil none) Evs.nil) (HInv.static set_Of_string.at_ set_Of_string.body (set_Of_string.snd  hp4)) ?_
    rintro _ _ ⟨rfl, rfl⟩
    obtain ⟨p5, hp5, h⟩ := bindo h
    refine qN rfl (ok_mapUpdate · tu63 (keyInt tu3) (.tmp rfl) (.tmp rfl) (.tmp rfl) hp5) ?_
    refine hr_region_end ?_
    try dsimp only [w0, w1, w2, w3]
    try dsimp only [w0, w1, w2, w3]
    exact J0_snd  h
  · refine q_cond_f rfl (.tmp rfl) (bfalse hc3) ?_
    refine q_skipc rfl ?_
    try dsimp only [w0, w1, w2, w3]
    exact J0_snd  h
end
end pair_put_int_string
namespace cmp_isNaN_int
theorem at_ : FnAt Try.prog 79 Try.f79 := ⟨Try.func79, by kernel_rfl⟩
noncomputable def d0 := (Try.f79.body).getD .skip
noncomputable def r1 := kR (kA d0)
noncomputable def r3 := kR (kA (kB d0))
noncomputable def c0 : Code := .seq (.region 0 r1 false) (.seq (.region 1 r3 false) .ret)
theorem body : Try.f79.body = some c0 := by kernel_rfl
section
variable {base : Nat} {W0 : World} {β0 : Bt}
def f (x0 : Int) : Option (Bool) :=
  some (!decide (x0 = x0))
theorem snd {x0 : Int} {S : HS}  {p : Bool} (h : f x0 = some p) : HCall Try.prog base W0 β0 79 [(.int .i64 x0)] S (fun v S1 => v = (.bool p) ∧ S1 = S) := by
  unfold f at h
  refine HCall.of_run at_.at_ body ?_
  show HRun Try.prog base W0 β0 79 none [.code c0] ⟨[(.int .i64 x0), τ, τ, τ, τ, τ], []⟩ S _
  refine q_seq rfl ?_
  refine q_region rfl rfl ?_
  refine qS 2 rfl (ok_assign · (.bool _)) ?_
  refine hr_region_end ?_
  try dsimp only [w0, w1, w2, w3]
  refine q_seq rfl ?_
  refine q_region rfl rfl ?_
  refine qS 3 rfl (ok_move · (.tmp rfl)) ?_
  refine qS 4 rfl (ok_move · (.tmp rfl)) ?_
  refine qS 5 rfl (ok_ibin · (.tmp rfl) (.tmp rfl) rfl) ?_
  refine qS 2 rfl (ok_assign · (.tmp rfl)) ?_
  refine hr_region_end ?_
  try dsimp only [w0, w1, w2, w3]
  cases h
  exact q_ret rfl at_.at_ rfl (res1 rfl rfl) ⟨rfl, rfl⟩
end
end cmp_isNaN_int
namespace cmp_Less_int
theorem at_ : FnAt Try.prog 70 Try.f70 := ⟨Try.func70, by kernel_rfl⟩
noncomputable def d0 := (Try.f70.body).getD .skip
noncomputable def r1 := kR (kA d0)
noncomputable def r3 := kR (kA (kB d0))
noncomputable def c4 : Code := .ret
noncomputable def c0 : Code := .seq (.region 0 r1 false) (.seq (.region 1 r3 false) c4)
theorem body : Try.f70.body = some c0 := by kernel_rfl
section
variable {base : Nat} {W0 : World} {β0 : Bt}
def J1  (y16 : Bool) : Option (Bool) :=
  some y16
theorem J1_snd   {y16 : Bool} {S : HS} {p : Bool} {g0 g1 g2 g3 g4 g5 g6 g7 g8 g9 g10 g11 g12 g13 g14 g15 : HV} (h : J1  y16 = some p) : HRun Try.prog base W0 β0 70 none [.inRegion r3 [12], .code c4] ⟨[g0, g1, g2, g3, g4, g5, g6, g7, g8, g9, g10, g11, g12, g13, g14, g15, (.bool y16)], []⟩ S (fun v S1 => v = (.bool p) ∧ S1 = S) := by
  unfold J1 at h
  refine qS 4 rfl (ok_assign · (.tmp rfl)) ?_
  refine hr_region_end ?_
  try dsimp only [w0, w1, w2, w3]
  cases h
  exact q_ret rfl at_.at_ rfl (res1 rfl rfl) ⟨rfl, rfl⟩
def J0  (y0 : Int) (y1 : Int) (y11 : Bool) : Option (Bool) :=
  (if y11 = true then
  J1 true else
  J1 (decide (y0 < y1)))
theorem J0_snd   {y0 : Int} {y1 : Int} {y11 : Bool} {S : HS} {p : Bool} {g2 g3 g4 g5 g6 g7 g8 g9 g10 g12 g13 g14 g15 g16 : HV} (h : J0  y0 y1 y11 = some p) : HRun Try.prog base W0 β0 70 none [.inRegion r3 [7, 8, 9, 10, 11, 12], .code c4] ⟨[(.int .i64 y0), (.int .i64 y1), g2, g3, g4, g5, g6, g7, g8, g9, g10, (.bool y11), g12, g13, g14, g15, g16], []⟩ S (fun v S1 => v = (.bool p) ∧ S1 = S) := by
  unfold J0 at h
  refine qS 12 rfl (ok_move · (.tmp rfl)) ?_
  try dsimp only [w0, w1, w2, w3]
  rcases ifc h with ⟨hc4, h⟩ | ⟨hc4, h⟩
  · refine q_skip (dst := some 13) (t := 12) rfl rfl rfl hc4 ?_
    refine q_skip (dst := some 14) (t := 12) rfl rfl rfl hc4 ?_
    refine q_skip (dst := some 15) (t := 12) rfl rfl rfl hc4 ?_
    refine qS 16 rfl (ok_pick_tt · (.tmp rfl) hc4 (.bool _)) ?_
    try dsimp only [w0, w1, w2, w3]
    try dsimp only [w0, w1, w2, w3]
    exact J1_snd  h
  · refine qG 12 13 rfl (bfalse hc4) (ok_move · (.tmp rfl)) ?_
    refine qG 12 14 rfl (bfalse hc4) (ok_move · (.tmp rfl)) ?_
    refine qG 12 15 rfl (bfalse hc4) (ok_ibin · (.tmp rfl) (.tmp rfl) rfl) ?_
    refine qS 16 rfl (ok_pick_ff · (.tmp rfl) (bfalse hc4) (.tmp rfl)) ?_
    try dsimp only [w0, w1, w2, w3]
    try dsimp only [w0, w1, w2, w3]
    exact J1_snd  h
def f (x0 : Int) (x1 : Int) : Option (Bool) :=
  (Option.bind (cmp_isNaN_int.f x0) fun p1 =>
  (if p1 = true then
  (Option.bind (cmp_isNaN_int.f x1) fun p3 =>
  J0 x0 x1 (!p3)) else
  J0 x0 x1 false))
theorem snd {x0 : Int} {x1 : Int} {S : HS}  {p : Bool} (h : f x0 x1 = some p) : HCall Try.prog base W0 β0 70 [(.int .i64 x0), (.int .i64 x1)] S (fun v S1 => v = (.bool p) ∧ S1 = S) := by
  unfold f at h
  refine HCall.of_run at_.at_ body ?_
  show HRun Try.prog base W0 β0 70 none [.code c0] ⟨[(.int .i64 x0), (.int .i64 x1), τ, τ, τ, τ, τ, τ, τ, τ, τ, τ, τ, τ, τ, τ, τ], []⟩ S _
  refine q_seq rfl ?_
  refine q_region rfl rfl ?_
  refine qS 4 rfl (ok_assign · (.bool _)) ?_
  refine hr_region_end ?_
  try dsimp only [w0, w1, w2, w3]
  refine q_seq rfl ?_
  refine q_region rfl rfl ?_
  refine qS 5 rfl (ok_move · (.tmp rfl)) ?_
  obtain ⟨p1, hp1, h⟩ := bindo h
  refine q_call (dst := some 6) rfl (.func _) (.cons (.tmp rfl) Evs.nil) (HInv.static cmp_isNaN_int.at_ cmp_isNaN_int.body (cmp_isNaN_int.snd  hp1)) ?_
  rintro _ _ ⟨rfl, rfl⟩
  refine qS 7 rfl (ok_move · (.tmp rfl)) ?_
  rcases ifc h with ⟨hc2, h⟩ | ⟨hc2, h⟩
  · refine qG 7 8 rfl hc2 (ok_move · (.tmp rfl)) ?_
    try dsimp only [w0, w1, w2, w3]
    obtain ⟨p3, hp3, h⟩ := bindo h
    refine q_call_g (t := 7) (dst := some 9) rfl rfl rfl hc2 (.func _) (.cons (.tmp rfl) Evs.nil) (HInv.static cmp_isNaN_int.at_ cmp_isNaN_int.body (cmp_isNaN_int.snd  hp3)) ?_
    rintro _ _ ⟨rfl, rfl⟩
    refine qG 7 10 rfl hc2 (ok_not · (.tmp rfl)) ?_
    refine qS 11 rfl (ok_pick_tt · (.tmp rfl) hc2 (.tmp rfl)) ?_
    try dsimp only [w0, w1, w2, w3]
    exact J0_snd  h
  · refine q_skip (dst := some 8) (t := 7) rfl rfl rfl (bfalse hc2) ?_
    try dsimp only [w0, w1, w2, w3]
    refine q_skip (dst := some 9) (t := 7) rfl rfl rfl (bfalse hc2) ?_
    refine q_skip (dst := some 10) (t := 7) rfl rfl rfl (bfalse hc2) ?_
    refine qS 11 rfl (ok_pick_ff · (.tmp rfl) (bfalse hc2) (.bool _)) ?_
    try dsimp only [w0, w1, w2, w3]
    exact J0_snd  h
end
end cmp_Less_int
namespace slices_isNaN_int
theorem at_ : FnAt Try.prog 71 Try.f71 := ⟨Try.func71, by kernel_rfl⟩
noncomputable def d0 := (Try.f71.body).getD .skip
noncomputable def r1 := kR (kA d0)
noncomputable def r3 := kR (kA (kB d0))
noncomputable def c0 : Code := .seq (.region 0 r1 false) (.seq (.region 1 r3 false) .ret)
theorem body : Try.f71.body = some c0 := by kernel_rfl
section
variable {base : Nat} {W0 : World} {β0 : Bt}
def f (x0 : Int) : Option (Bool) :=
  some (!decide (x0 = x0))
theorem snd {x0 : Int} {S : HS}  {p : Bool} (h : f x0 = some p) : HCall Try.prog base W0 β0 71 [(.int .i64 x0)] S (fun v S1 => v = (.bool p) ∧ S1 = S) := by
  unfold f at h
  refine HCall.of_run at_.at_ body ?_
  show HRun Try.prog base W0 β0 71 none [.code c0] ⟨[(.int .i64 x0), τ, τ, τ, τ, τ], []⟩ S _
  refine q_seq rfl ?_
  refine q_region rfl rfl ?_
  refine qS 2 rfl (ok_assign · (.bool _)) ?_
  refine hr_region_end ?_
  try dsimp only [w0, w1, w2, w3]
  refine q_seq rfl ?_
  refine q_region rfl rfl ?_
  refine qS 3 rfl (ok_move · (.tmp rfl)) ?_
  refine qS 4 rfl (ok_move · (.tmp rfl)) ?_
  refine qS 5 rfl (ok_ibin · (.tmp rfl) (.tmp rfl) rfl) ?_
  refine qS 2 rfl (ok_assign · (.tmp rfl)) ?_
  refine hr_region_end ?_
  try dsimp only [w0, w1, w2, w3]
  cases h
  exact q_ret rfl at_.at_ rfl (res1 rfl rfl) ⟨rfl, rfl⟩
end
end slices_isNaN_int
namespace slices_BinarySearch_int_int
theorem at_ : FnAt Try.prog 60 Try.f60 := ⟨Try.func60, by kernel_rfl⟩
noncomputable def d0 := (Try.f60.body).getD .skip
noncomputable def r1 := kR (kA d0)
noncomputable def r3 := kR (kA (kB d0))
noncomputable def r5 := kR (kA (kB (kB d0)))
noncomputable def d6 := kB (kB (kB d0))
noncomputable def d9 := kA (kA (kA d6))
noncomputable def r11 := kR (kA (kA d9))
noncomputable def r17 := kR (kA (kA (kB d9)))
noncomputable def r19 := kR (kA (kB (kA (kB d9))))
noncomputable def r21 := kR (kA (kB (kB (kA (kB d9)))))
noncomputable def r22 := kR (kB (kB (kB (kA (kB d9)))))
noncomputable def r24 := kR (kA (kB d6))
noncomputable def c25 : Code := .ret
noncomputable def c23 : Code := .seq (.region 8 r24 false) c25
noncomputable def c9 : Code := .seq (.seq (.region 3 r11 false) (.cond (.tmp 15) .skip (.exit 0))) (.block 1 (.seq (.region 4 r17 false) (.seq (.region 5 r19 false) (.cond (.tmp 27) (.region 6 r21 false) (.region 7 r22 false)))))
noncomputable def c0 : Code := .seq (.region 0 r1 false) (.seq (.region 1 r3 false) (.seq (.region 2 r5 false) (.seq (.block 0 (.loop c9)) c23)))
theorem body : Try.f60.body = some c0 := by kernel_rfl
section
variable {base : Nat} {W0 : World} {β0 : Bt}
def J2 (k : Nat) (y31 : Int) (y53 : Bool) (S : HS) : Option ((Int × Bool) × HS) :=
  some ((y31, y53), S)
theorem J2_snd {k : Nat}  {y31 : Int} {y53 : Bool} {S : HS} {p : (Int × Bool) × HS} {g0 g1 g2 g3 g4 g5 g6 g7 g8 g9 g10 g11 g12 g13 g14 g15 g16 g17 g18 g19 g20 g21 g22 g23 g24 g25 g26 g27 g28 g29 g30 g32 g33 g34 g35 g36 g37 g38 g39 g40 g41 g42 g43 g44 g45 g46 g47 g48 g49 g50 g51 g52 : HV} (h : J2 k y31 y53 S = some p) : HRun Try.prog base W0 β0 60 none [.inRegion r24 [23, 24], .code c25] ⟨[g0, g1, g2, g3, g4, g5, g6, g7, g8, g9, g10, g11, g12, g13, g14, g15, g16, g17, g18, g19, g20, g21, g22, g23, g24, g25, g26, g27, g28, g29, g30, (.int .i64 y31), g32, g33, g34, g35, g36, g37, g38, g39, g40, g41, g42, g43, g44, g45, g46, g47, g48, g49, g50, g51, g52, (.bool y53)], []⟩ S (fun v S1 => v = (.tup [(.int .i64 p.1.1), (.bool p.1.2)]) ∧ S1 = p.2) := by
  unfold J2 at h
  refine qS 4 rfl (ok_assign · (.tmp rfl)) ?_
  try dsimp only [w0, w1, w2, w3]
  refine qS 5 rfl (ok_assign · (.tmp rfl)) ?_
  refine hr_region_end ?_
  try dsimp only [w0, w1, w2, w3]
  cases h
  exact q_ret rfl at_.at_ rfl (res2 rfl rfl rfl) ⟨rfl, rfl⟩
def J1 (k : Nat) (y31 : Int) (y35 : Bool) (y52 : Bool) (S : HS) : Option ((Int × Bool) × HS) :=
  (if y35 = true then
  J2 k y31 y52 S else
  J2 k y31 false S)
theorem J1_snd {k : Nat}  {y31 : Int} {y35 : Bool} {y52 : Bool} {S : HS} {p : (Int × Bool) × HS} {g0 g1 g2 g3 g4 g5 g6 g7 g8 g9 g10 g11 g12 g13 g14 g15 g16 g17 g18 g19 g20 g21 g22 g23 g24 g25 g26 g27 g28 g29 g30 g32 g33 g34 g36 g37 g38 g39 g40 g41 g42 g43 g44 g45 g46 g47 g48 g49 g50 g51 g53 : HV} (h : J1 k y31 y35 y52 S = some p) : HRun Try.prog base W0 β0 60 none [.inRegion r24 [22, 23, 24], .code c25] ⟨[g0, g1, g2, g3, g4, g5, g6, g7, g8, g9, g10, g11, g12, g13, g14, g15, g16, g17, g18, g19, g20, g21, g22, g23, g24, g25, g26, g27, g28, g29, g30, (.int .i64 y31), g32, g33, g34, (.bool y35), g36, g37, g38, g39, g40, g41, g42, g43, g44, g45, g46, g47, g48, g49, g50, g51, (.bool y52), g53], []⟩ S (fun v S1 => v = (.tup [(.int .i64 p.1.1), (.bool p.1.2)]) ∧ S1 = p.2) := by
  unfold J1 at h
  rcases ifc h with ⟨hc10, h⟩ | ⟨hc10, h⟩
  · refine qS 53 rfl (ok_pick_tt · (.tmp rfl) hc10 (.tmp rfl)) ?_
    try dsimp only [w0, w1, w2, w3]
    exact J2_snd  h
  · refine qS 53 rfl (ok_pick_ff · (.tmp rfl) (bfalse hc10) (.bool _)) ?_
    try dsimp only [w0, w1, w2, w3]
    exact J2_snd  h
def J3 (k : Nat) (y31 : Int) (y35 : Bool) (y42 : Bool) (y51 : Bool) (S : HS) : Option ((Int × Bool) × HS) :=
  (if y35 = true then
  (if y42 = true then
  J1 k y31 y35 true S else
  J1 k y31 y35 y51 S) else
  J2 k y31 false S)
theorem J3_snd {k : Nat}  {y31 : Int} {y35 : Bool} {y42 : Bool} {y51 : Bool} {S : HS} {p : (Int × Bool) × HS} {g0 g1 g2 g3 g4 g5 g6 g7 g8 g9 g10 g11 g12 g13 g14 g15 g16 g17 g18 g19 g20 g21 g22 g23 g24 g25 g26 g27 g28 g29 g30 g32 g33 g34 g36 g37 g38 g39 g40 g41 g43 g44 g45 g46 g47 g48 g49 g50 g52 g53 : HV} (h : J3 k y31 y35 y42 y51 S = some p) : HRun Try.prog base W0 β0 60 none [.inRegion r24 [21, 22, 23, 24], .code c25] ⟨[g0, g1, g2, g3, g4, g5, g6, g7, g8, g9, g10, g11, g12, g13, g14, g15, g16, g17, g18, g19, g20, g21, g22, g23, g24, g25, g26, g27, g28, g29, g30, (.int .i64 y31), g32, g33, g34, (.bool y35), g36, g37, g38, g39, g40, g41, (.bool y42), g43, g44, g45, g46, g47, g48, g49, g50, (.bool y51), g52, g53], []⟩ S (fun v S1 => v = (.tup [(.int .i64 p.1.1), (.bool p.1.2)]) ∧ S1 = p.2) := by
  unfold J3 at h
  rcases ifc h with ⟨hc16, h⟩ | ⟨hc16, h⟩
  · rcases ifc h with ⟨hc17, h⟩ | ⟨hc17, h⟩
    · refine qG 35 52 rfl hc16 (ok_pick_tt · (.tmp rfl) hc17 (.bool _)) ?_
      try dsimp only [w0, w1, w2, w3]
      exact J1_snd  h
    · refine qG 35 52 rfl hc16 (ok_pick_ff · (.tmp rfl) (bfalse hc17) (.tmp rfl)) ?_
      try dsimp only [w0, w1, w2, w3]
      exact J1_snd  h
  · refine q_skip (dst := some 52) (t := 35) rfl rfl rfl (bfalse hc16) ?_
    refine qS 53 rfl (ok_pick_ff · (.tmp rfl) (bfalse hc16) (.bool _)) ?_
    try dsimp only [w0, w1, w2, w3]
    exact J2_snd  h
def L0 (k : Nat) : Nat → Sl → Int → Int → Int → Int → HS → Option ((Int × Bool) × HS)
  | 0, _, _, _, _, _, _ => none
  | n + 1, y0, y1, y6, y7, y8, S =>
    (if y7 < y8 then
    (Option.bind (HS.idx S y0 (w64 (Int.fdiv (IntKind.wrap .u64 (w64 (y7 + y8))) (2 ^ (min (Int.toNat 1) (IntKind.bits .u64))))) 1) fun p2 =>
    (Option.bind (HS.ldI S .i64 p2) fun p3 =>
    (Option.bind (cmp_Less_int.f p3 y1) fun p4 =>
    (if p4 = true then
    (L0 k n) y0 y1 y6 (w64 ((w64 (Int.fdiv (IntKind.wrap .u64 (w64 (y7 + y8))) (2 ^ (min (Int.toNat 1) (IntKind.bits .u64))))) + 1)) y8 S else
    (L0 k n) y0 y1 y6 y7 (w64 (Int.fdiv (IntKind.wrap .u64 (w64 (y7 + y8))) (2 ^ (min (Int.toNat 1) (IntKind.bits .u64))))) S)))) else
    (if y7 < y6 then
    (Option.bind (HS.idx S y0 y7 1) fun p7 =>
    (Option.bind (HS.ldI S .i64 p7) fun p8 =>
    (if p8 = y1 then
    J1 k y7 (decide (y7 < y6)) true S else
    (Option.bind (HS.idx S y0 y7 1) fun p11 =>
    (Option.bind (HS.ldI S .i64 p11) fun p12 =>
    (Option.bind (slices_isNaN_int.f p12) fun p13 =>
    (if p13 = true then
    (Option.bind (slices_isNaN_int.f y1) fun p15 =>
    J3 k y7 (decide (y7 < y6)) (decide (p8 = y1)) p15 S) else
    J3 k y7 (decide (y7 < y6)) (decide (p8 = y1)) false S))))))) else
    J2 k y7 false S))
theorem L0_snd {k : Nat}  : ∀ {n : Nat} ⦃y0 : Sl⦄ ⦃y1 : Int⦄ ⦃y6 : Int⦄ ⦃y7 : Int⦄ ⦃y8 : Int⦄ ⦃S : HS⦄ ⦃p : (Int × Bool) × HS⦄ ⦃g2 g3 g4 g5 g9 g10 g11 g12 g13 g14 g15 g16 g17 g18 g19 g20 g21 g22 g23 g24 g25 g26 g27 g28 g29 g30 g31 g32 g33 g34 g35 g36 g37 g38 g39 g40 g41 g42 g43 g44 g45 g46 g47 g48 g49 g50 g51 g52 g53 : HV⦄, L0 k n y0 y1 y6 y7 y8 S = some p → HRun Try.prog base W0 β0 60 none [.inLoop c9, .inBlock 0, .code c23] ⟨[(Sl.hv y0), (.int .i64 y1), g2, g3, g4, g5, (.int .i64 y6), (.int .i64 y7), (.int .i64 y8), g9, g10, g11, g12, g13, g14, g15, g16, g17, g18, g19, g20, g21, g22, g23, g24, g25, g26, g27, g28, g29, g30, g31, g32, g33, g34, g35, g36, g37, g38, g39, g40, g41, g42, g43, g44, g45, g46, g47, g48, g49, g50, g51, g52, g53], []⟩ S (fun v S1 => v = (.tup [(.int .i64 p.1.1), (.bool p.1.2)]) ∧ S1 = p.2) := by
  intro n
  induction n with
  | zero => intro _ _ _ _ _ _ _ _ _ _ _ _ _ _ _ _ _ _ _ _ _ _ _ _ _ _ _ _ _ _ _ _ _ _ _ _ _ _ _ _ _ _ _ _ _ _ _ _ _ _ _ _ _ _ _ _ h; cases h
  | succ n ih =>
    intro y0 y1 y6 y7 y8 S p g2 g3 g4 g5 g9 g10 g11 g12 g13 g14 g15 g16 g17 g18 g19 g20 g21 g22 g23 g24 g25 g26 g27 g28 g29 g30 g31 g32 g33 g34 g35 g36 g37 g38 g39 g40 g41 g42 g43 g44 g45 g46 g47 g48 g49 g50 g51 g52 g53 h
    simp only [L0] at h
    refine hr_inLoop ?_
    refine q_seq rfl ?_
    refine q_seq rfl ?_
    refine q_region rfl rfl ?_
    refine qS 13 rfl (ok_move · (.tmp rfl)) ?_
    refine qS 14 rfl (ok_move · (.tmp rfl)) ?_
    refine qS 15 rfl (ok_ibin · (.tmp rfl) (.tmp rfl) rfl) ?_
    refine hr_region_end ?_
    try dsimp only [w0, w1, w2, w3]
    rcases ifc h with ⟨hc1, h⟩ | ⟨hc1, h⟩
    · refine q_cond_t rfl (.tmp rfl) (decide_eq_true hc1) ?_
      refine q_skipc rfl ?_
      refine q_block rfl ?_
      refine q_seq rfl ?_
      refine q_region rfl rfl ?_
      refine qS 16 rfl (ok_move · (.tmp rfl)) ?_
      refine qS 17 rfl (ok_move · (.tmp rfl)) ?_
      refine qS 18 rfl (ok_ibin · (.tmp rfl) (.tmp rfl) rfl) ?_
      refine qS 19 rfl (ok_conv_int · tu3 tu105 (.tmp rfl)) ?_
      try dsimp only [w0, w1, w2, w3]
      refine qS 20 rfl (ok_shr · (.tmp rfl) (.int _ _) (by decide)) ?_
      refine qS 21 rfl (ok_conv_int · tu105 tu3 (.tmp rfl)) ?_
      refine qS 9 rfl (ok_assign · (.tmp rfl)) ?_
      refine hr_region_end ?_
      try dsimp only [w0, w1, w2, w3]
      refine q_seq rfl ?_
      refine q_region rfl rfl ?_
      refine qS 22 rfl (ok_move · (.tmp rfl)) ?_
      refine qS 23 rfl (ok_move · (.tmp rfl)) ?_
      obtain ⟨p2, hp2, h⟩ := bindo h
      refine qS 24 rfl (ok_indexAddr (s := y0) · tu43 sz3 (.tmp rfl) (.tmp rfl) hp2) ?_
      obtain ⟨p3, hp3, h⟩ := bindo h
      refine qS 25 rfl (ok_load_s · sc3 (.tmp rfl) rfl (ldI_out hp3)) ?_
      try dsimp only [w0, w1, w2, w3]
      refine qS 26 rfl (ok_move · (.tmp rfl)) ?_
      obtain ⟨p4, hp4, h⟩ := bindo h
      refine q_call (dst := some 27) rfl (.func _) (.cons (.tmp rfl) (.cons (.tmp rfl) Evs.nil)) (HInv.static cmp_Less_int.at_ cmp_Less_int.body (cmp_Less_int.snd  hp4)) ?_
      rintro _ _ ⟨rfl, rfl⟩
      refine hr_region_end ?_
      try dsimp only [w0, w1, w2, w3]
      rcases ifc h with ⟨hc5, h⟩ | ⟨hc5, h⟩
      · refine q_cond_t rfl (.tmp rfl) hc5 ?_
        refine q_region rfl rfl ?_
        refine qS 28 rfl (ok_move · (.tmp rfl)) ?_
        refine qS 29 rfl (ok_ibin · (.tmp rfl) (.int _ _) rfl) ?_
        refine qS 7 rfl (ok_assign · (.tmp rfl)) ?_
        refine hr_region_end ?_
        try dsimp only [w0, w1, w2, w3]
        refine hr_inBlock ?_
        try dsimp only [w0, w1, w2, w3]
        exact ih h
      · refine q_cond_f rfl (.tmp rfl) (bfalse hc5) ?_
        refine q_region rfl rfl ?_
        refine qS 30 rfl (ok_move · (.tmp rfl)) ?_
        refine qS 8 rfl (ok_assign · (.tmp rfl)) ?_
        refine hr_region_end ?_
        try dsimp only [w0, w1, w2, w3]
        refine hr_inBlock ?_
        try dsimp only [w0, w1, w2, w3]
        exact ih h
    · refine q_cond_f rfl (.tmp rfl) (decide_eq_false hc1) ?_
      refine q_exit rfl rfl ?_
      refine q_seq rfl ?_
      refine q_region rfl rfl ?_
      refine qS 31 rfl (ok_move · (.tmp rfl)) ?_
      refine qS 32 rfl (ok_move · (.tmp rfl)) ?_
      refine qS 33 rfl (ok_move · (.tmp rfl)) ?_
      refine qS 34 rfl (ok_ibin · (.tmp rfl) (.tmp rfl) rfl) ?_
      try dsimp only [w0, w1, w2, w3]
      refine qS 35 rfl (ok_move · (.tmp rfl)) ?_
      rcases ifc h with ⟨hc6, h⟩ | ⟨hc6, h⟩
      · refine qG 35 36 rfl (decide_eq_true hc6) (ok_move · (.tmp rfl)) ?_
        refine qG 35 37 rfl (decide_eq_true hc6) (ok_move · (.tmp rfl)) ?_
        obtain ⟨p7, hp7, h⟩ := bindo h
        refine qG 35 38 rfl (decide_eq_true hc6) (ok_indexAddr (s := y0) · tu43 sz3 (.tmp rfl) (.tmp rfl) hp7) ?_
        try dsimp only [w0, w1, w2, w3]
        obtain ⟨p8, hp8, h⟩ := bindo h
        refine qG 35 39 rfl (decide_eq_true hc6) (ok_load_s · sc3 (.tmp rfl) rfl (ldI_out hp8)) ?_
        refine qG 35 40 rfl (decide_eq_true hc6) (ok_move · (.tmp rfl)) ?_
        refine qG 35 41 rfl (decide_eq_true hc6) (ok_ibin · (.tmp rfl) (.tmp rfl) rfl) ?_
        refine qG 35 42 rfl (decide_eq_true hc6) (ok_move · (.tmp rfl)) ?_
        try dsimp only [w0, w1, w2, w3]
        rcases ifc h with ⟨hc9, h⟩ | ⟨hc9, h⟩
        · refine q_skip (dst := some 43) (t := 42) rfl rfl rfl (decide_eq_true hc9) ?_
          refine q_skip (dst := some 44) (t := 42) rfl rfl rfl (decide_eq_true hc9) ?_
          refine q_skip (dst := some 45) (t := 42) rfl rfl rfl (decide_eq_true hc9) ?_
          refine q_skip (dst := some 46) (t := 42) rfl rfl rfl (decide_eq_true hc9) ?_
          try dsimp only [w0, w1, w2, w3]
          refine q_skip (dst := some 47) (t := 42) rfl rfl rfl (decide_eq_true hc9) ?_
          refine q_skip (dst := some 48) (t := 42) rfl rfl rfl (decide_eq_true hc9) ?_
          refine q_skip_u (dst := some 49) (t := 48) rfl rfl rfl ?_
          refine q_skip_u (dst := some 50) (t := 48) rfl rfl rfl ?_
          try dsimp only [w0, w1, w2, w3]
          refine q_skip (dst := some 51) (t := 42) rfl rfl rfl (decide_eq_true hc9) ?_
          refine qG 35 52 rfl (decide_eq_true hc6) (ok_pick_tt · (.tmp rfl) (decide_eq_true hc9) (.bool _)) ?_
          try dsimp only [w0, w1, w2, w3]
          exact J1_snd  h
        · refine qG 42 43 rfl (decide_eq_false hc9) (ok_move · (.tmp rfl)) ?_
          refine qG 42 44 rfl (decide_eq_false hc9) (ok_move · (.tmp rfl)) ?_
          obtain ⟨p11, hp11, h⟩ := bindo h
          refine qG 42 45 rfl (decide_eq_false hc9) (ok_indexAddr (s := y0) · tu43 sz3 (.tmp rfl) (.tmp rfl) hp11) ?_
          obtain ⟨p12, hp12, h⟩ := bindo h
          refine qG 42 46 rfl (decide_eq_false hc9) (ok_load_s · sc3 (.tmp rfl) rfl (ldI_out hp12)) ?_
          try dsimp only [w0, w1, w2, w3]
          obtain ⟨p13, hp13, h⟩ := bindo h
          refine q_call_g (t := 42) (dst := some 47) rfl rfl rfl (decide_eq_false hc9) (.func _) (.cons (.tmp rfl) Evs.nil) (HInv.static slices_isNaN_int.at_ slices_isNaN_int.body (slices_isNaN_int.snd  hp13)) ?_
          rintro _ _ ⟨rfl, rfl⟩
          refine qG 42 48 rfl (decide_eq_false hc9) (ok_move · (.tmp rfl)) ?_
          rcases ifc h with ⟨hc14, h⟩ | ⟨hc14, h⟩
          · refine qG 48 49 rfl hc14 (ok_move · (.tmp rfl)) ?_
            obtain ⟨p15, hp15, h⟩ := bindo h
            refine q_call_g (t := 48) (dst := some 50) rfl rfl rfl hc14 (.func _) (.cons (.tmp rfl) Evs.nil) (HInv.static slices_isNaN_int.at_ slices_isNaN_int.body (slices_isNaN_int.snd  hp15)) ?_
            rintro _ _ ⟨rfl, rfl⟩
            try dsimp only [w0, w1, w2, w3]
            refine qG 42 51 rfl (decide_eq_false hc9) (ok_pick_tt · (.tmp rfl) hc14 (.tmp rfl)) ?_
            try dsimp only [w0, w1, w2, w3]
            exact J3_snd  h
          · refine q_skip (dst := some 49) (t := 48) rfl rfl rfl (bfalse hc14) ?_
            refine q_skip (dst := some 50) (t := 48) rfl rfl rfl (bfalse hc14) ?_
            try dsimp only [w0, w1, w2, w3]
            refine qG 42 51 rfl (decide_eq_false hc9) (ok_pick_ff · (.tmp rfl) (bfalse hc14) (.bool _)) ?_
            try dsimp only [w0, w1, w2, w3]
            exact J3_snd  h
      · refine q_skip (dst := some 36) (t := 35) rfl rfl rfl (decide_eq_false hc6) ?_
        refine q_skip (dst := some 37) (t := 35) rfl rfl rfl (decide_eq_false hc6) ?_
        refine q_skip (dst := some 38) (t := 35) rfl rfl rfl (decide_eq_false hc6) ?_
        try dsimp only [w0, w1, w2, w3]
        refine q_skip (dst := some 39) (t := 35) rfl rfl rfl (decide_eq_false hc6) ?_
        refine q_skip (dst := some 40) (t := 35) rfl rfl rfl (decide_eq_false hc6) ?_
        refine q_skip (dst := some 41) (t := 35) rfl rfl rfl (decide_eq_false hc6) ?_
        refine q_skip (dst := some 42) (t := 35) rfl rfl rfl (decide_eq_false hc6) ?_
        try dsimp only [w0, w1, w2, w3]
        refine q_skip_u (dst := some 43) (t := 42) rfl rfl rfl ?_
        refine q_skip_u (dst := some 44) (t := 42) rfl rfl rfl ?_
        refine q_skip_u (dst := some 45) (t := 42) rfl rfl rfl ?_
        refine q_skip_u (dst := some 46) (t := 42) rfl rfl rfl ?_
        try dsimp only [w0, w1, w2, w3]
        refine q_skip_u (dst := some 47) (t := 42) rfl rfl rfl ?_
        refine q_skip_u (dst := some 48) (t := 42) rfl rfl rfl ?_
        refine q_skip_u (dst := some 49) (t := 48) rfl rfl rfl ?_
        refine q_skip_u (dst := some 50) (t := 48) rfl rfl rfl ?_
        try dsimp only [w0, w1, w2, w3]
        refine q_skip_u (dst := some 51) (t := 42) rfl rfl rfl ?_
        refine q_skip (dst := some 52) (t := 35) rfl rfl rfl (decide_eq_false hc6) ?_
        refine qS 53 rfl (ok_pick_ff · (.tmp rfl) (decide_eq_false hc6) (.bool _)) ?_
        try dsimp only [w0, w1, w2, w3]
        exact J2_snd  h
def f (k : Nat) (x0 : Sl) (x1 : Int) (S : HS) : Option ((Int × Bool) × HS) :=
  L0 k k x0 x1 (Sl.len x0 : Int) 0 (Sl.len x0 : Int) S
theorem snd {k : Nat} {x0 : Sl} {x1 : Int} {S : HS}  {p : (Int × Bool) × HS} (h : f k x0 x1 S = some p) : HCall Try.prog base W0 β0 60 [(Sl.hv x0), (.int .i64 x1)] S (fun v S1 => v = (.tup [(.int .i64 p.1.1), (.bool p.1.2)]) ∧ S1 = p.2) := by
  unfold f at h
  refine HCall.of_run at_.at_ body ?_
  show HRun Try.prog base W0 β0 60 none [.code c0] ⟨[(Sl.hv x0), (.int .i64 x1), τ, τ, τ, τ, τ, τ, τ, τ, τ, τ, τ, τ, τ, τ, τ, τ, τ, τ, τ, τ, τ, τ, τ, τ, τ, τ, τ, τ, τ, τ, τ, τ, τ, τ, τ, τ, τ, τ, τ, τ, τ, τ, τ, τ, τ, τ, τ, τ, τ, τ, τ, τ], []⟩ S _
  refine q_seq rfl ?_
  refine q_region rfl rfl ?_
  refine qS 4 rfl (ok_assign · (.int _ _)) ?_
  refine qS 5 rfl (ok_assign · (.bool _)) ?_
  refine hr_region_end ?_
  try dsimp only [w0, w1, w2, w3]
  refine q_seq rfl ?_
  refine q_region rfl rfl ?_
  refine qS 10 rfl (ok_move · (.tmp rfl)) ?_
  refine qS 11 rfl (ok_len_sl (q := Sl.a x0) (n := Sl.len x0) (z := Sl.cap x0) · rfl tu43 (.tmp rfl)) ?_
  refine qS 6 rfl (ok_assign · (.tmp rfl)) ?_
  refine hr_region_end ?_
  try dsimp only [w0, w1, w2, w3]
  refine q_seq rfl ?_
  refine q_region rfl rfl ?_
  refine qS 12 rfl (ok_move · (.tmp rfl)) ?_
  refine qS 7 rfl (ok_assign · (.int _ _)) ?_
  refine qS 8 rfl (ok_assign · (.tmp rfl)) ?_
  refine hr_region_end ?_
  try dsimp only [w0, w1, w2, w3]
  refine q_seq rfl ?_
  refine q_block rfl ?_
  refine q_loop rfl ?_
  try dsimp only [w0, w1, w2, w3]
  exact L0_snd  h
end
end slices_BinarySearch_int_int
namespace slices_Reverse_int_int
theorem at_ : FnAt Try.prog 83 Try.f83 := ⟨Try.func83, by kernel_rfl⟩
noncomputable def d0 := (Try.f83.body).getD .skip
noncomputable def r1 := kR (kA d0)
noncomputable def r6 := kR (kA (kA (kA (kA (kB d0)))))
noncomputable def r12 := kR (kA (kA (kB (kA (kA (kB d0))))))
noncomputable def r13 := kR (kB (kB (kA (kA (kB d0)))))
noncomputable def c4 : Code := .seq (.seq (.region 1 r6 false) (.cond (.tmp 9) .skip (.exit 0))) (.seq (.block 1 (.region 3 r12 true)) (.region 2 r13 false))
noncomputable def c0 : Code := .seq (.region 0 r1 false) (.block 0 (.loop c4))
theorem body : Try.f83.body = some c0 := by kernel_rfl
section
variable {base : Nat} {W0 : World} {β0 : Bt}
def L0 (k : Nat) : Nat → Sl → Int → Int → HS → Option ((Unit) × HS)
  | 0, _, _, _, _ => none
  | n + 1, y0, y2, y3, S =>
    (if y2 < y3 then
    (Option.bind (HS.idx S y0 y3 1) fun p2 =>
    (Option.bind (HS.ldI S .i64 p2) fun p3 =>
    (Option.bind (HS.idx S y0 y2 1) fun p4 =>
    (Option.bind (HS.ldI S .i64 p4) fun p5 =>
    (Option.bind (HS.idx S y0 y2 1) fun p6 =>
    (Option.bind (HS.sets S p6 [(.int .i64 p3)]) fun p7 =>
    (Option.bind (HS.idx p7 y0 y3 1) fun p8 =>
    (Option.bind (HS.sets p7 p8 [(.int .i64 p5)]) fun p9 =>
    (L0 k n) y0 (w64 (y2 + 1)) (w64 (y3 - 1)) p9)))))))) else
    some ((), S))
theorem L0_snd {k : Nat}  : ∀ {n : Nat} ⦃y0 : Sl⦄ ⦃y2 : Int⦄ ⦃y3 : Int⦄ ⦃S : HS⦄ ⦃p : (Unit) × HS⦄ ⦃g1 g4 g5 g6 g7 g8 g9 g10 g11 g12 g13 g14 g15 g16 g17 g18 g19 g20 g21 g22 g23 g24 g25 g26 g27 : HV⦄, L0 k n y0 y2 y3 S = some p → HRun Try.prog base W0 β0 83 none [.inLoop c4, .inBlock 0] ⟨[(Sl.hv y0), g1, (.int .i64 y2), (.int .i64 y3), g4, g5, g6, g7, g8, g9, g10, g11, g12, g13, g14, g15, g16, g17, g18, g19, g20, g21, g22, g23, g24, g25, g26, g27], []⟩ S (fun v S1 => v = (.tup []) ∧ S1 = p.2) := by
  intro n
  induction n with
  | zero => intro _ _ _ _ _ _ _ _ _ _ _ _ _ _ _ _ _ _ _ _ _ _ _ _ _ _ _ _ _ _ h; cases h
  | succ n ih =>
    intro y0 y2 y3 S p g1 g4 g5 g6 g7 g8 g9 g10 g11 g12 g13 g14 g15 g16 g17 g18 g19 g20 g21 g22 g23 g24 g25 g26 g27 h
    simp only [L0] at h
    refine hr_inLoop ?_
    refine q_seq rfl ?_
    refine q_seq rfl ?_
    refine q_region rfl rfl ?_
    refine qS 7 rfl (ok_move · (.tmp rfl)) ?_
    refine qS 8 rfl (ok_move · (.tmp rfl)) ?_
    refine qS 9 rfl (ok_ibin · (.tmp rfl) (.tmp rfl) rfl) ?_
    refine hr_region_end ?_
    try dsimp only [w0, w1, w2, w3]
    rcases ifc h with ⟨hc1, h⟩ | ⟨hc1, h⟩
    · refine q_cond_t rfl (.tmp rfl) (decide_eq_true hc1) ?_
      refine q_skipc rfl ?_
      refine q_seq rfl ?_
      refine q_block rfl ?_
      refine x_start (cls := [0, 0, 0, 0, 0, 0, 1, 1, 0, 0, 1, 1, 1, 2, 1, 2]) (rk := [0, 1, 12, 13, 2, 3, 4, 5, 6, 7, 8, 9, 10, 11, 14, 15]) rfl (by kernel_rfl) ?_
      refine yf 14 [0] rfl (ok_move · (.tmp rfl)) ?_
      refine yf 15 [2] rfl (ok_move · (.tmp rfl)) ?_
      refine yf 16 [0] rfl (ok_move · (.tmp rfl)) ?_
      refine yf 17 [3] rfl (ok_move · (.tmp rfl)) ?_
      try dsimp only [w0, w1, w2, w3]
      refine yf 18 [0] rfl (ok_move · (.tmp rfl)) ?_
      refine yf 19 [3] rfl (ok_move · (.tmp rfl)) ?_
      obtain ⟨p2, hp2, h⟩ := bindo h
      refine yr 20 [18, 19] rfl (ok_indexAddr (s := y0) · tu43 sz3 (.tmp rfl) (.tmp rfl) hp2) ?_
      obtain ⟨p3, hp3, h⟩ := bindo h
      refine yr 21 [20] rfl (ok_load_s · sc3 (.tmp rfl) rfl (ldI_out hp3)) ?_
      try dsimp only [w0, w1, w2, w3]
      refine yf 22 [0] rfl (ok_move · (.tmp rfl)) ?_
      refine yf 23 [2] rfl (ok_move · (.tmp rfl)) ?_
      obtain ⟨p4, hp4, h⟩ := bindo h
      refine yr 24 [22, 23] rfl (ok_indexAddr (s := y0) · tu43 sz3 (.tmp rfl) (.tmp rfl) hp4) ?_
      obtain ⟨p5, hp5, h⟩ := bindo h
      refine yr 25 [24] rfl (ok_load_s · sc3 (.tmp rfl) rfl (ldI_out hp5)) ?_
      try dsimp only [w0, w1, w2, w3]
      obtain ⟨p6, hp6, h⟩ := bindo h
      refine yr 26 [14, 15] rfl (ok_indexAddr (s := y0) · tu43 sz3 (.tmp rfl) (.tmp rfl) hp6) ?_
      obtain ⟨p7, hp7, h⟩ := bindo h
      refine x_go (e_op (dst := none) (ts := [26, 21]) rfl (by intro _ _ h; cases h) (by kernel_rfl) (fun _ ho => ok_store_s (v := (.int .i64 p3)) ho sz3 (.tmp rfl) rfl (.tmp rfl) rfl hp7)) rfl ?_
      obtain ⟨p8, hp8, h⟩ := bindo h
      refine yr 27 [16, 17] rfl (ok_indexAddr (s := y0) · tu43 sz3 (.tmp rfl) (.tmp rfl) hp8) ?_
      obtain ⟨p9, hp9, h⟩ := bindo h
      refine x_go (e_op (dst := none) (ts := [27, 25]) rfl (by intro _ _ h; cases h) (by kernel_rfl) (fun _ ho => ok_store_s (v := (.int .i64 p5)) ho sz3 (.tmp rfl) rfl (.tmp rfl) rfl hp9)) rfl ?_
      refine x_rest rfl ?_
      refine hr_region_end ?_
      try dsimp only [w0, w1, w2, w3]
      refine hr_inBlock ?_
      refine q_region rfl rfl ?_
      refine qS 10 rfl (ok_move · (.tmp rfl)) ?_
      refine qS 11 rfl (ok_ibin · (.tmp rfl) (.int _ _) rfl) ?_
      refine qS 12 rfl (ok_move · (.tmp rfl)) ?_
      refine qS 13 rfl (ok_ibin · (.tmp rfl) (.int _ _) rfl) ?_
      try dsimp only [w0, w1, w2, w3]
      refine qS 2 rfl (ok_assign · (.tmp rfl)) ?_
      refine qS 3 rfl (ok_assign · (.tmp rfl)) ?_
      refine hr_region_end ?_
      try dsimp only [w0, w1, w2, w3]
      try dsimp only [w0, w1, w2, w3]
      exact ih h
    · refine q_cond_f rfl (.tmp rfl) (decide_eq_false hc1) ?_
      refine q_exit rfl rfl ?_
      cases h
      exact q_end at_.at_ rfl (res0 rfl) ⟨rfl, rfl⟩
def f (k : Nat) (x0 : Sl) (S : HS) : Option ((Unit) × HS) :=
  L0 k k x0 0 (w64 ((Sl.len x0 : Int) - 1)) S
theorem snd {k : Nat} {x0 : Sl} {S : HS}  {p : (Unit) × HS} (h : f k x0 S = some p) : HCall Try.prog base W0 β0 83 [(Sl.hv x0)] S (fun v S1 => v = (.tup []) ∧ S1 = p.2) := by
  unfold f at h
  refine HCall.of_run at_.at_ body ?_
  show HRun Try.prog base W0 β0 83 none [.code c0] ⟨[(Sl.hv x0), τ, τ, τ, τ, τ, τ, τ, τ, τ, τ, τ, τ, τ, τ, τ, τ, τ, τ, τ, τ, τ, τ, τ, τ, τ, τ, τ], []⟩ S _
  refine q_seq rfl ?_
  refine q_region rfl rfl ?_
  refine qS 4 rfl (ok_move · (.tmp rfl)) ?_
  refine qS 5 rfl (ok_len_sl (q := Sl.a x0) (n := Sl.len x0) (z := Sl.cap x0) · rfl tu43 (.tmp rfl)) ?_
  refine qS 6 rfl (ok_ibin · (.tmp rfl) (.int _ _) rfl) ?_
  refine qS 2 rfl (ok_assign · (.int _ _)) ?_
  try dsimp only [w0, w1, w2, w3]
  refine qS 3 rfl (ok_assign · (.tmp rfl)) ?_
  refine hr_region_end ?_
  try dsimp only [w0, w1, w2, w3]
  refine q_block rfl ?_
  refine q_loop rfl ?_
  try dsimp only [w0, w1, w2, w3]
  exact L0_snd  h
end
end slices_Reverse_int_int
namespace slices_rotateLeft_int
theorem at_ : FnAt Try.prog 81 Try.f81 := ⟨Try.func81, by kernel_rfl⟩
noncomputable def d0 := (Try.f81.body).getD .skip
noncomputable def r1 := kR (kA d0)
noncomputable def r3 := kR (kA (kB d0))
noncomputable def r4 := kR (kB (kB d0))
noncomputable def c0 : Code := .seq (.region 0 r1 false) (.seq (.region 1 r3 false) (.region 2 r4 false))
theorem body : Try.f81.body = some c0 := by kernel_rfl
section
variable {base : Nat} {W0 : World} {β0 : Bt}
def f (k : Nat) (x0 : Sl) (x1 : Int) (S : HS) : Option ((Unit) × HS) :=
  (Option.bind (HS.cut S x0 0 x1 1) fun p1 =>
  (Option.bind (slices_Reverse_int_int.f k p1 S) fun p2 =>
  (Option.bind (HS.cut p2.2 x0 x1 (Sl.len x0 : Int) 1) fun p3 =>
  (Option.bind (slices_Reverse_int_int.f k p3 p2.2) fun p4 =>
  (Option.bind (slices_Reverse_int_int.f k x0 p4.2) fun p5 =>
  some ((), p5.2))))))
theorem snd {k : Nat} {x0 : Sl} {x1 : Int} {S : HS}  {p : (Unit) × HS} (h : f k x0 x1 S = some p) : HCall Try.prog base W0 β0 81 [(Sl.hv x0), (.int .i64 x1)] S (fun v S1 => v = (.tup []) ∧ S1 = p.2) := by
  unfold f at h
  refine HCall.of_run at_.at_ body ?_
  show HRun Try.prog base W0 β0 81 none [.code c0] ⟨[(Sl.hv x0), (.int .i64 x1), τ, τ, τ, τ, τ, τ, τ, τ, τ, τ, τ, τ], []⟩ S _
  refine q_seq rfl ?_
  refine q_region rfl rfl ?_
  refine qS 4 rfl (ok_move · (.tmp rfl)) ?_
  refine qS 5 rfl (ok_move · (.tmp rfl)) ?_
  obtain ⟨p1, hp1, h⟩ := bindo h
  refine qS 6 rfl (ok_slice (kl := .i64) (kh := .i64) (s := x0) (l := 0) (h := x1) · tu43 si3 (.tmp rfl) (.inl ⟨rfl, rfl⟩) (.inr ⟨_, rfl, (.tmp rfl)⟩) hp1) ?_
  obtain ⟨p2, hp2, h⟩ := bindo h
  refine q_call (dst := some 7) rfl (.func _) (.cons (.tmp rfl) Evs.nil) (HInv.static slices_Reverse_int_int.at_ slices_Reverse_int_int.body (slices_Reverse_int_int.snd  hp2)) ?_
  rintro _ _ ⟨rfl, rfl⟩
  refine hr_region_end ?_
  try dsimp only [w0, w1, w2, w3]
  refine q_seq rfl ?_
  refine q_region rfl rfl ?_
  refine qS 8 rfl (ok_move · (.tmp rfl)) ?_
  refine qS 9 rfl (ok_move · (.tmp rfl)) ?_
  obtain ⟨p3, hp3, h⟩ := bindo h
  refine qS 10 rfl (ok_slice (kl := .i64) (kh := .i64) (s := x0) (l := x1) (h := (Sl.len x0 : Int)) · tu43 si3 (.tmp rfl) (.inr ⟨_, rfl, (.tmp rfl)⟩) (.inl ⟨rfl, rfl⟩) hp3) ?_
  obtain ⟨p4, hp4, h⟩ := bindo h
  refine q_call (dst := some 11) rfl (.func _) (.cons (.tmp rfl) Evs.nil) (HInv.static slices_Reverse_int_int.at_ slices_Reverse_int_int.body (slices_Reverse_int_int.snd  hp4)) ?_
  rintro _ _ ⟨rfl, rfl⟩
  refine hr_region_end ?_
  try dsimp only [w0, w1, w2, w3]
  refine q_region rfl rfl ?_
  refine qS 12 rfl (ok_move · (.tmp rfl)) ?_
  obtain ⟨p5, hp5, h⟩ := bindo h
  refine q_call (dst := some 13) rfl (.func _) (.cons (.tmp rfl) Evs.nil) (HInv.static slices_Reverse_int_int.at_ slices_Reverse_int_int.body (slices_Reverse_int_int.snd  hp5)) ?_
  rintro _ _ ⟨rfl, rfl⟩
  refine hr_region_end ?_
  try dsimp only [w0, w1, w2, w3]
  cases h
  exact q_end at_.at_ rfl (res0 rfl) ⟨rfl, rfl⟩
end
end slices_rotateLeft_int
namespace slices_rotateRight_int
theorem at_ : FnAt Try.prog 77 Try.f77 := ⟨Try.func77, by kernel_rfl⟩
noncomputable def d0 := (Try.f77.body).getD .skip
noncomputable def r0 := kR d0
noncomputable def c0 : Code := .region 0 r0 false
theorem body : Try.f77.body = some c0 := by kernel_rfl
section
variable {base : Nat} {W0 : World} {β0 : Bt}
def f (k : Nat) (x0 : Sl) (x1 : Int) (S : HS) : Option ((Unit) × HS) :=
  (Option.bind (slices_rotateLeft_int.f k x0 (w64 ((Sl.len x0 : Int) - x1)) S) fun p1 =>
  some ((), p1.2))
theorem snd {k : Nat} {x0 : Sl} {x1 : Int} {S : HS}  {p : (Unit) × HS} (h : f k x0 x1 S = some p) : HCall Try.prog base W0 β0 77 [(Sl.hv x0), (.int .i64 x1)] S (fun v S1 => v = (.tup []) ∧ S1 = p.2) := by
  unfold f at h
  refine HCall.of_run at_.at_ body ?_
  show HRun Try.prog base W0 β0 77 none [.code c0] ⟨[(Sl.hv x0), (.int .i64 x1), τ, τ, τ, τ, τ, τ, τ, τ], []⟩ S _
  refine q_region rfl rfl ?_
  refine qS 4 rfl (ok_move · (.tmp rfl)) ?_
  refine qS 5 rfl (ok_move · (.tmp rfl)) ?_
  refine qS 6 rfl (ok_len_sl (q := Sl.a x0) (n := Sl.len x0) (z := Sl.cap x0) · rfl tu43 (.tmp rfl)) ?_
  refine qS 7 rfl (ok_move · (.tmp rfl)) ?_
  try dsimp only [w0, w1, w2, w3]
  refine qS 8 rfl (ok_ibin · (.tmp rfl) (.tmp rfl) rfl) ?_
  obtain ⟨p1, hp1, h⟩ := bindo h
  refine q_call (dst := some 9) rfl (.func _) (.cons (.tmp rfl) (.cons (.tmp rfl) Evs.nil)) (HInv.static slices_rotateLeft_int.at_ slices_rotateLeft_int.body (slices_rotateLeft_int.snd  hp1)) ?_
  rintro _ _ ⟨rfl, rfl⟩
  refine hr_region_end ?_
  try dsimp only [w0, w1, w2, w3]
  cases h
  exact q_end at_.at_ rfl (res0 rfl) ⟨rfl, rfl⟩
end
end slices_rotateRight_int
namespace slices_Insert_int_int
theorem at_ : FnAt Try.prog 65 Try.f65 := ⟨Try.func65, by kernel_rfl⟩
noncomputable def d0 := (Try.f65.body).getD .skip
noncomputable def r1 := kR (kA d0)
noncomputable def r3 := kR (kA (kB d0))
noncomputable def r5 := kR (kA (kB (kB d0)))
noncomputable def d6 := kB (kB (kB d0))
noncomputable def r8 := kR (kA (kA d6))
noncomputable def r11 := kR (kA (kA (kB (kA d6))))
noncomputable def r15 := kR (kA (kB d6))
noncomputable def r18 := kR (kA (kA (kB (kB d6))))
noncomputable def r21 := kR (kA (kA (kB (kA (kB (kB d6))))))
noncomputable def d24 := kB (kB (kB d6))
noncomputable def r26 := kR (kA (kA d24))
noncomputable def d28 := kA (kB (kA d24))
noncomputable def r29 := kR (kA d28)
noncomputable def r31 := kR (kA (kB d28))
noncomputable def r33 := kR (kA (kB (kB d28)))
noncomputable def r35 := kR (kA (kB (kB (kB d28))))
noncomputable def r39 := kR (kA (kB d24))
noncomputable def d41 := kA (kB (kB d24))
noncomputable def r42 := kR (kA d41)
noncomputable def r45 := kR (kA (kA (kB d41)))
noncomputable def r47 := kR (kA (kB (kA (kB d41))))
noncomputable def r49 := kR (kA (kB (kB (kA (kB d41)))))
noncomputable def r53 := kR (kA (kB (kB (kB d24))))
noncomputable def r55 := kR (kA (kB (kB (kB (kB d24)))))
noncomputable def r57 := kR (kA (kB (kB (kB (kB (kB d24))))))
noncomputable def c0 : Code := .seq (.region 0 r1 false) (.seq (.region 1 r3 false) (.seq (.region 2 r5 false) (.seq (.seq (.region 3 r8 false) (.cond (.tmp 16) (.seq (.region 4 r11 false) .ret) .skip)) (.seq (.region 5 r15 false) (.seq (.seq (.region 6 r18 false) (.cond (.tmp 22) (.seq (.region 7 r21 false) .ret) .skip)) (.seq (.seq (.region 8 r26 false) (.cond (.tmp 31) (.seq (.region 9 r29 false) (.seq (.region 10 r31 false) (.seq (.region 11 r33 true) (.seq (.region 12 r35 false) .ret)))) .skip)) (.seq (.region 13 r39 false) (.seq (.seq (.region 14 r42 false) (.cond (.tmp 68) (.seq (.region 15 r45 true) (.seq (.region 16 r47 false) (.seq (.region 17 r49 false) .ret))) .skip)) (.seq (.region 18 r53 false) (.seq (.region 19 r55 false) (.seq (.region 20 r57 false) .ret)))))))))))
theorem body : Try.f65.body = some c0 := by kernel_rfl
section
variable {base : Nat} {W0 : World} {β0 : Bt}
def f (k : Nat) (x0 : Sl) (x1 : Int) (x2 : Sl) (S : HS) : Option ((Sl) × HS) :=
  (Option.bind (HS.cut S x0 x1 (Sl.len x0 : Int) 1) fun p1 =>
  (if (Sl.len x2 : Int) = 0 then
  some (x0, S) else
  (if x1 = (Sl.len x0 : Int) then
  (Option.bind (HS.rows S x2 1) fun p4 =>
  (Option.bind (HS.app S x0 p4 1) fun p5 =>
  some ((p5.1), (p5.2)))) else
  (Option.bind (Sl.capOf x0) fun p6 =>
  (if (w64 ((Sl.len x0 : Int) + (Sl.len x2 : Int))) > p6 then
  (Option.bind (HS.cut S x0 0 x1 1) fun p8 =>
  (Option.bind (HS.appZ S p8 (w64 ((w64 ((Sl.len x0 : Int) + (Sl.len x2 : Int))) - x1)) [(.int .i64 0)] 1) fun p9 =>
  (Option.bind (HS.cut (p9.2) (p9.1) x1 (Sl.len (p9.1) : Int) 1) fun p10 =>
  (Option.bind (HS.rows (p9.2) x2 1) fun p11 =>
  (Option.bind (HS.over (p9.2) p10 (List.take (Sl.len p10) p11) 1) fun p12 =>
  (Option.bind (HS.cut p12 (p9.1) (w64 (x1 + (Sl.len x2 : Int))) (Sl.len (p9.1) : Int) 1) fun p13 =>
  (Option.bind (HS.cut p12 x0 x1 (Sl.len x0 : Int) 1) fun p14 =>
  (Option.bind (HS.rows p12 p14 1) fun p15 =>
  (Option.bind (HS.over p12 p13 (List.take (Sl.len p13) p15) 1) fun p16 =>
  some ((p9.1), p16)))))))))) else
  (Option.bind (HS.cut S x0 0 (w64 ((Sl.len x0 : Int) + (Sl.len x2 : Int))) 1) fun p17 =>
  (Option.bind (HS.cut S p17 (w64 (x1 + (Sl.len x2 : Int))) (Sl.len p17 : Int) 1) fun p18 =>
  (Option.bind (HS.ovl S x2 p18) fun p19 =>
  (if (!p19) = true then
  (Option.bind (HS.cut S p17 (w64 (x1 + (Sl.len x2 : Int))) (Sl.len p17 : Int) 1) fun p21 =>
  (Option.bind (HS.cut S p17 x1 (Sl.len p17 : Int) 1) fun p22 =>
  (Option.bind (HS.rows S p22 1) fun p23 =>
  (Option.bind (HS.over S p21 (List.take (Sl.len p21) p23) 1) fun p24 =>
  (Option.bind (HS.cut p24 p17 x1 (Sl.len p17 : Int) 1) fun p25 =>
  (Option.bind (HS.rows p24 x2 1) fun p26 =>
  (Option.bind (HS.over p24 p25 (List.take (Sl.len p25) p26) 1) fun p27 =>
  some (p17, p27)))))))) else
  (Option.bind (HS.cut S p17 (Sl.len x0 : Int) (Sl.len p17 : Int) 1) fun p28 =>
  (Option.bind (HS.rows S x2 1) fun p29 =>
  (Option.bind (HS.over S p28 (List.take (Sl.len p28) p29) 1) fun p30 =>
  (Option.bind (HS.cut p30 p17 x1 (Sl.len p17 : Int) 1) fun p31 =>
  (Option.bind (slices_rotateRight_int.f k p31 (Sl.len x2 : Int) p30) fun p32 =>
  some (p17, p32.2)))))))))))))))
theorem snd {k : Nat} {x0 : Sl} {x1 : Int} {x2 : Sl} {S : HS}  {p : (Sl) × HS} (h : f k x0 x1 x2 S = some p) : HCall Try.prog base W0 β0 65 [(Sl.hv x0), (.int .i64 x1), (Sl.hv x2)] S (fun v S1 => v = (Sl.hv p.1) ∧ S1 = p.2) := by
  unfold f at h
  refine HCall.of_run at_.at_ body ?_
  show HRun Try.prog base W0 β0 65 none [.code c0] ⟨[(Sl.hv x0), (.int .i64 x1), (Sl.hv x2), τ, τ, τ, τ, τ, τ, τ, τ, τ, τ, τ, τ, τ, τ, τ, τ, τ, τ, τ, τ, τ, τ, τ, τ, τ, τ, τ, τ, τ, τ, τ, τ, τ, τ, τ, τ, τ, τ, τ, τ, τ, τ, τ, τ, τ, τ, τ, τ, τ, τ, τ, τ, τ, τ, τ, τ, τ, τ, τ, τ, τ, τ, τ, τ, τ, τ, τ, τ, τ, τ, τ, τ, τ, τ, τ, τ, τ, τ, τ, τ, τ, τ, τ, τ, τ, τ, τ, τ, τ, τ, τ, τ], []⟩ S _
  refine q_seq rfl ?_
  refine q_region rfl rfl ?_
  refine qS 6 rfl (ok_assign · (.const fun _ => .slNil none)) ?_
  refine hr_region_end ?_
  try dsimp only [w0, w1, w2, w3]
  refine q_seq rfl ?_
  refine q_region rfl rfl ?_
  refine qS 10 rfl (ok_move · (.tmp rfl)) ?_
  refine qS 11 rfl (ok_move · (.tmp rfl)) ?_
  obtain ⟨p1, hp1, h⟩ := bindo h
  refine qS 12 rfl (ok_slice (kl := .i64) (kh := .i64) (s := x0) (l := x1) (h := (Sl.len x0 : Int)) · tu43 si3 (.tmp rfl) (.inr ⟨_, rfl, (.tmp rfl)⟩) (.inl ⟨rfl, rfl⟩) hp1) ?_
  refine hr_region_end ?_
  try dsimp only [w0, w1, w2, w3]
  refine q_seq rfl ?_
  refine q_region rfl rfl ?_
  refine qS 13 rfl (ok_move · (.tmp rfl)) ?_
  refine qS 14 rfl (ok_len_sl (q := Sl.a x2) (n := Sl.len x2) (z := Sl.cap x2) · rfl tu43 (.tmp rfl)) ?_
  refine qS 7 rfl (ok_assign · (.tmp rfl)) ?_
  refine hr_region_end ?_
  try dsimp only [w0, w1, w2, w3]
  refine q_seq rfl ?_
  refine q_seq rfl ?_
  refine q_region rfl rfl ?_
  refine qS 15 rfl (ok_move · (.tmp rfl)) ?_
  refine qS 16 rfl (ok_ibin · (.tmp rfl) (.int _ _) rfl) ?_
  refine hr_region_end ?_
  try dsimp only [w0, w1, w2, w3]
  rcases ifc h with ⟨hc2, h⟩ | ⟨hc2, h⟩
  · refine q_cond_t rfl (.tmp rfl) (decide_eq_true hc2) ?_
    refine q_seq rfl ?_
    refine q_region rfl rfl ?_
    refine qS 17 rfl (ok_move · (.tmp rfl)) ?_
    refine qS 6 rfl (ok_assign · (.tmp rfl)) ?_
    refine hr_region_end ?_
    try dsimp only [w0, w1, w2, w3]
    cases h
    exact q_ret rfl at_.at_ rfl (res1 rfl rfl) ⟨rfl, rfl⟩
  · refine q_cond_f rfl (.tmp rfl) (decide_eq_false hc2) ?_
    refine q_skipc rfl ?_
    refine q_seq rfl ?_
    refine q_region rfl rfl ?_
    refine qS 18 rfl (ok_move · (.tmp rfl)) ?_
    refine qS 19 rfl (ok_len_sl (q := Sl.a x0) (n := Sl.len x0) (z := Sl.cap x0) · rfl tu43 (.tmp rfl)) ?_
    refine qS 8 rfl (ok_assign · (.tmp rfl)) ?_
    refine hr_region_end ?_
    try dsimp only [w0, w1, w2, w3]
    refine q_seq rfl ?_
    refine q_seq rfl ?_
    refine q_region rfl rfl ?_
    refine qS 20 rfl (ok_move · (.tmp rfl)) ?_
    refine qS 21 rfl (ok_move · (.tmp rfl)) ?_
    refine qS 22 rfl (ok_ibin · (.tmp rfl) (.tmp rfl) rfl) ?_
    refine hr_region_end ?_
    try dsimp only [w0, w1, w2, w3]
    rcases ifc h with ⟨hc3, h⟩ | ⟨hc3, h⟩
    · refine q_cond_t rfl (.tmp rfl) (decide_eq_true hc3) ?_
      refine q_seq rfl ?_
      refine q_region rfl rfl ?_
      refine qS 23 rfl (ok_move · (.tmp rfl)) ?_
      refine qS 24 rfl (ok_move · (.tmp rfl)) ?_
      obtain ⟨p4, hp4, h⟩ := bindo h
      obtain ⟨p5, hp5, h⟩ := bindo h
      refine qS 25 rfl (ok_append (s := x0) (s1 := x2) el43 · rfl rfl ⟨_, tu43⟩ (.tmp rfl) (.tmp rfl) hp4 hp5) ?_
      refine qS 6 rfl (ok_assign · (.tmp rfl)) ?_
      refine hr_region_end ?_
      try dsimp only [w0, w1, w2, w3]
      cases h
      exact q_ret rfl at_.at_ rfl (res1 rfl rfl) ⟨rfl, rfl⟩
    · refine q_cond_f rfl (.tmp rfl) (decide_eq_false hc3) ?_
      refine q_skipc rfl ?_
      refine q_seq rfl ?_
      refine q_seq rfl ?_
      refine q_region rfl rfl ?_
      refine qS 26 rfl (ok_move · (.tmp rfl)) ?_
      refine qS 27 rfl (ok_move · (.tmp rfl)) ?_
      refine qS 28 rfl (ok_ibin · (.tmp rfl) (.tmp rfl) rfl) ?_
      refine qS 29 rfl (ok_move · (.tmp rfl)) ?_
      try dsimp only [w0, w1, w2, w3]
      obtain ⟨p6, hp6, h⟩ := bindo h
      refine qS 30 rfl (ok_cap (s := x0) · rfl tu43 (.tmp rfl) hp6) ?_
      refine qS 31 rfl (ok_ibin · (.tmp rfl) (.tmp rfl) rfl) ?_
      refine hr_region_end ?_
      try dsimp only [w0, w1, w2, w3]
      rcases ifc h with ⟨hc7, h⟩ | ⟨hc7, h⟩
      · refine q_cond_t rfl (.tmp rfl) (decide_eq_true hc7) ?_
        refine q_seq rfl ?_
        refine q_region rfl rfl ?_
        refine qS 32 rfl (ok_move · (.tmp rfl)) ?_
        refine qS 33 rfl (ok_move · (.tmp rfl)) ?_
        obtain ⟨p8, hp8, h⟩ := bindo h
        refine qS 34 rfl (ok_slice (kl := .i64) (kh := .i64) (s := x0) (l := 0) (h := x1) · tu43 si3 (.tmp rfl) (.inl ⟨rfl, rfl⟩) (.inr ⟨_, rfl, (.tmp rfl)⟩) hp8) ?_
        refine qS 35 rfl (ok_move · (.tmp rfl)) ?_
        try dsimp only [w0, w1, w2, w3]
        refine qS 36 rfl (ok_move · (.tmp rfl)) ?_
        refine qS 37 rfl (ok_ibin · (.tmp rfl) (.tmp rfl) rfl) ?_
        refine qS 38 rfl (ok_move · (.tmp rfl)) ?_
        refine qS 39 rfl (ok_ibin · (.tmp rfl) (.tmp rfl) rfl) ?_
        try dsimp only [w0, w1, w2, w3]
        obtain ⟨p9, hp9, h⟩ := bindo h
        refine qS 40 rfl (ok_append_zeros (s := p8) el43 · rfl rfl tu3 (.tmp rfl) (.tmp rfl) hp9) ?_
        refine qS 9 rfl (ok_assign · (.tmp rfl)) ?_
        refine hr_region_end ?_
        try dsimp only [w0, w1, w2, w3]
        refine q_seq rfl ?_
        refine q_region rfl rfl ?_
        refine qS 41 rfl (ok_move · (.tmp rfl)) ?_
        refine qS 42 rfl (ok_move · (.tmp rfl)) ?_
        obtain ⟨p10, hp10, h⟩ := bindo h
        refine qS 43 rfl (ok_slice (kl := .i64) (kh := .i64) (s := (p9.1)) (l := x1) (h := (Sl.len (p9.1) : Int)) · tu43 si3 (.tmp rfl) (.inr ⟨_, rfl, (.tmp rfl)⟩) (.inl ⟨rfl, rfl⟩) hp10) ?_
        refine qS 44 rfl (ok_move · (.tmp rfl)) ?_
        try dsimp only [w0, w1, w2, w3]
        obtain ⟨p11, hp11, h⟩ := bindo h
        obtain ⟨p12, hp12, h⟩ := bindo h
        refine qS 45 rfl (ok_copy (s := p10) (s1 := x2) el43 · rfl (.tmp rfl) (.tmp rfl) hp11 hp12) ?_
        refine hr_region_end ?_
        try dsimp only [w0, w1, w2, w3]
        refine q_seq rfl ?_
        refine x_start (cls := [0, 0, 0, 0, 1, 0, 0, 1, 2]) (rk := [0, 1, 2, 3, 4, 5, 6, 7, 8]) rfl (by kernel_rfl) ?_
        refine yf 46 [9] rfl (ok_move · (.tmp rfl)) ?_
        refine yf 47 [1] rfl (ok_move · (.tmp rfl)) ?_
        refine yf 48 [7] rfl (ok_move · (.tmp rfl)) ?_
        refine yf 49 [47, 48] rfl (ok_ibin · (.tmp rfl) (.tmp rfl) rfl) ?_
        try dsimp only [w0, w1, w2, w3]
        obtain ⟨p13, hp13, h⟩ := bindo h
        refine yr 50 [46, 49] rfl (ok_slice (kl := .i64) (kh := .i64) (s := (p9.1)) (l := (w64 (x1 + (Sl.len x2 : Int)))) (h := (Sl.len (p9.1) : Int)) · tu43 si3 (.tmp rfl) (.inr ⟨_, rfl, (.tmp rfl)⟩) (.inl ⟨rfl, rfl⟩) hp13) ?_
        refine yf 51 [0] rfl (ok_move · (.tmp rfl)) ?_
        refine yf 52 [1] rfl (ok_move · (.tmp rfl)) ?_
        obtain ⟨p14, hp14, h⟩ := bindo h
        refine yr 53 [51, 52] rfl (ok_slice (kl := .i64) (kh := .i64) (s := x0) (l := x1) (h := (Sl.len x0 : Int)) · tu43 si3 (.tmp rfl) (.inr ⟨_, rfl, (.tmp rfl)⟩) (.inl ⟨rfl, rfl⟩) hp14) ?_
        try dsimp only [w0, w1, w2, w3]
        obtain ⟨p15, hp15, h⟩ := bindo h
        obtain ⟨p16, hp16, h⟩ := bindo h
        refine ye 54 [50, 53] rfl (ok_copy (s := p13) (s1 := p14) el43 · rfl (.tmp rfl) (.tmp rfl) hp15 hp16) ?_
        refine x_rest rfl ?_
        refine hr_region_end ?_
        try dsimp only [w0, w1, w2, w3]
        refine q_seq rfl ?_
        refine q_region rfl rfl ?_
        refine qS 55 rfl (ok_move · (.tmp rfl)) ?_
        refine qS 6 rfl (ok_assign · (.tmp rfl)) ?_
        refine hr_region_end ?_
        try dsimp only [w0, w1, w2, w3]
        cases h
        exact q_ret rfl at_.at_ rfl (res1 rfl rfl) ⟨rfl, rfl⟩
      · refine q_cond_f rfl (.tmp rfl) (decide_eq_false hc7) ?_
        refine q_skipc rfl ?_
        refine q_seq rfl ?_
        refine q_region rfl rfl ?_
        refine qS 56 rfl (ok_move · (.tmp rfl)) ?_
        refine qS 57 rfl (ok_move · (.tmp rfl)) ?_
        refine qS 58 rfl (ok_move · (.tmp rfl)) ?_
        refine qS 59 rfl (ok_ibin · (.tmp rfl) (.tmp rfl) rfl) ?_
        try dsimp only [w0, w1, w2, w3]
        obtain ⟨p17, hp17, h⟩ := bindo h
        refine qS 60 rfl (ok_slice (kl := .i64) (kh := .i64) (s := x0) (l := 0) (h := (w64 ((Sl.len x0 : Int) + (Sl.len x2 : Int)))) · tu43 si3 (.tmp rfl) (.inl ⟨rfl, rfl⟩) (.inr ⟨_, rfl, (.tmp rfl)⟩) hp17) ?_
        refine qS 0 rfl (ok_assign · (.tmp rfl)) ?_
        refine hr_region_end ?_
        try dsimp only [w0, w1, w2, w3]
        refine q_seq rfl ?_
        refine q_seq rfl ?_
        refine q_region rfl rfl ?_
        refine qS 61 rfl (ok_move · (.tmp rfl)) ?_
        refine qS 62 rfl (ok_move · (.tmp rfl)) ?_
        refine qS 63 rfl (ok_move · (.tmp rfl)) ?_
        refine qS 64 rfl (ok_move · (.tmp rfl)) ?_
        try dsimp only [w0, w1, w2, w3]
        refine qS 65 rfl (ok_ibin · (.tmp rfl) (.tmp rfl) rfl) ?_
        obtain ⟨p18, hp18, h⟩ := bindo h
        refine qS 66 rfl (ok_slice (kl := .i64) (kh := .i64) (s := p17) (l := (w64 (x1 + (Sl.len x2 : Int)))) (h := (Sl.len p17 : Int)) · tu43 si3 (.tmp rfl) (.inr ⟨_, rfl, (.tmp rfl)⟩) (.inl ⟨rfl, rfl⟩) hp18) ?_
        obtain ⟨p19, hp19, h⟩ := bindo h
        refine qS 67 rfl (ok_overlaps (s1 := x2) (s2 := p18) · ext76 tu43 si3 (.tmp rfl) (.tmp rfl) hp19) ?_
        refine qS 68 rfl (ok_not · (.tmp rfl)) ?_
        refine hr_region_end ?_
        try dsimp only [w0, w1, w2, w3]
        rcases ifc h with ⟨hc20, h⟩ | ⟨hc20, h⟩
        · refine q_cond_t rfl (.tmp rfl) hc20 ?_
          refine q_seq rfl ?_
          refine x_start (cls := [0, 0, 0, 0, 1, 0, 0, 1, 2]) (rk := [0, 1, 2, 3, 4, 5, 6, 7, 8]) rfl (by kernel_rfl) ?_
          refine yf 69 [0] rfl (ok_move · (.tmp rfl)) ?_
          refine yf 70 [1] rfl (ok_move · (.tmp rfl)) ?_
          refine yf 71 [7] rfl (ok_move · (.tmp rfl)) ?_
          refine yf 72 [70, 71] rfl (ok_ibin · (.tmp rfl) (.tmp rfl) rfl) ?_
          try dsimp only [w0, w1, w2, w3]
          obtain ⟨p21, hp21, h⟩ := bindo h
          refine yr 73 [69, 72] rfl (ok_slice (kl := .i64) (kh := .i64) (s := p17) (l := (w64 (x1 + (Sl.len x2 : Int)))) (h := (Sl.len p17 : Int)) · tu43 si3 (.tmp rfl) (.inr ⟨_, rfl, (.tmp rfl)⟩) (.inl ⟨rfl, rfl⟩) hp21) ?_
          refine yf 74 [0] rfl (ok_move · (.tmp rfl)) ?_
          refine yf 75 [1] rfl (ok_move · (.tmp rfl)) ?_
          obtain ⟨p22, hp22, h⟩ := bindo h
          refine yr 76 [74, 75] rfl (ok_slice (kl := .i64) (kh := .i64) (s := p17) (l := x1) (h := (Sl.len p17 : Int)) · tu43 si3 (.tmp rfl) (.inr ⟨_, rfl, (.tmp rfl)⟩) (.inl ⟨rfl, rfl⟩) hp22) ?_
          try dsimp only [w0, w1, w2, w3]
          obtain ⟨p23, hp23, h⟩ := bindo h
          obtain ⟨p24, hp24, h⟩ := bindo h
          refine ye 77 [73, 76] rfl (ok_copy (s := p21) (s1 := p22) el43 · rfl (.tmp rfl) (.tmp rfl) hp23 hp24) ?_
          refine x_rest rfl ?_
          refine hr_region_end ?_
          try dsimp only [w0, w1, w2, w3]
          refine q_seq rfl ?_
          refine q_region rfl rfl ?_
          refine qS 78 rfl (ok_move · (.tmp rfl)) ?_
          refine qS 79 rfl (ok_move · (.tmp rfl)) ?_
          obtain ⟨p25, hp25, h⟩ := bindo h
          refine qS 80 rfl (ok_slice (kl := .i64) (kh := .i64) (s := p17) (l := x1) (h := (Sl.len p17 : Int)) · tu43 si3 (.tmp rfl) (.inr ⟨_, rfl, (.tmp rfl)⟩) (.inl ⟨rfl, rfl⟩) hp25) ?_
          refine qS 81 rfl (ok_move · (.tmp rfl)) ?_
          try dsimp only [w0, w1, w2, w3]
          obtain ⟨p26, hp26, h⟩ := bindo h
          obtain ⟨p27, hp27, h⟩ := bindo h
          refine qS 82 rfl (ok_copy (s := p25) (s1 := x2) el43 · rfl (.tmp rfl) (.tmp rfl) hp26 hp27) ?_
          refine hr_region_end ?_
          try dsimp only [w0, w1, w2, w3]
          refine q_seq rfl ?_
          refine q_region rfl rfl ?_
          refine qS 83 rfl (ok_move · (.tmp rfl)) ?_
          refine qS 6 rfl (ok_assign · (.tmp rfl)) ?_
          refine hr_region_end ?_
          try dsimp only [w0, w1, w2, w3]
          cases h
          exact q_ret rfl at_.at_ rfl (res1 rfl rfl) ⟨rfl, rfl⟩
        · refine q_cond_f rfl (.tmp rfl) (bfalse hc20) ?_
          refine q_skipc rfl ?_
          refine q_seq rfl ?_
          refine q_region rfl rfl ?_
          refine qS 84 rfl (ok_move · (.tmp rfl)) ?_
          refine qS 85 rfl (ok_move · (.tmp rfl)) ?_
          obtain ⟨p28, hp28, h⟩ := bindo h
          refine qS 86 rfl (ok_slice (kl := .i64) (kh := .i64) (s := p17) (l := (Sl.len x0 : Int)) (h := (Sl.len p17 : Int)) · tu43 si3 (.tmp rfl) (.inr ⟨_, rfl, (.tmp rfl)⟩) (.inl ⟨rfl, rfl⟩) hp28) ?_
          refine qS 87 rfl (ok_move · (.tmp rfl)) ?_
          try dsimp only [w0, w1, w2, w3]
          obtain ⟨p29, hp29, h⟩ := bindo h
          obtain ⟨p30, hp30, h⟩ := bindo h
          refine qS 88 rfl (ok_copy (s := p28) (s1 := x2) el43 · rfl (.tmp rfl) (.tmp rfl) hp29 hp30) ?_
          refine hr_region_end ?_
          try dsimp only [w0, w1, w2, w3]
          refine q_seq rfl ?_
          refine q_region rfl rfl ?_
          refine qS 89 rfl (ok_move · (.tmp rfl)) ?_
          refine qS 90 rfl (ok_move · (.tmp rfl)) ?_
          obtain ⟨p31, hp31, h⟩ := bindo h
          refine qS 91 rfl (ok_slice (kl := .i64) (kh := .i64) (s := p17) (l := x1) (h := (Sl.len p17 : Int)) · tu43 si3 (.tmp rfl) (.inr ⟨_, rfl, (.tmp rfl)⟩) (.inl ⟨rfl, rfl⟩) hp31) ?_
          refine qS 92 rfl (ok_move · (.tmp rfl)) ?_
          try dsimp only [w0, w1, w2, w3]
          obtain ⟨p32, hp32, h⟩ := bindo h
          refine q_call (dst := some 93) rfl (.func _) (.cons (.tmp rfl) (.cons (.tmp rfl) Evs.nil)) (HInv.static slices_rotateRight_int.at_ slices_rotateRight_int.body (slices_rotateRight_int.snd  hp32)) ?_
          rintro _ _ ⟨rfl, rfl⟩
          refine hr_region_end ?_
          try dsimp only [w0, w1, w2, w3]
          refine q_seq rfl ?_
          refine q_region rfl rfl ?_
          refine qS 94 rfl (ok_move · (.tmp rfl)) ?_
          refine qS 6 rfl (ok_assign · (.tmp rfl)) ?_
          refine hr_region_end ?_
          try dsimp only [w0, w1, w2, w3]
          cases h
          exact q_ret rfl at_.at_ rfl (res1 rfl rfl) ⟨rfl, rfl⟩
end
end slices_Insert_int_int
namespace slices_Insert_int_int_w
theorem at_ : FnAt Try.prog 65 Try.f65 := slices_Insert_int_int.at_
theorem body : Try.f65.body = some slices_Insert_int_int.c0 := slices_Insert_int_int.body
def f (x0 : Sl) (x1 : Int) (x2 : Sl) (S : HS) : Option ((Sl) × HS) := HS.ins S x0 x1 x2 1
theorem snd {base : Nat} {W0 : World} {β0 : Bt} {x0 : Sl} {x1 : Int} {x2 : Sl} {S : HS} {p : (Sl) × HS} (h : f x0 x1 x2 S = some p) : HCall Try.prog base W0 β0 65 [(Sl.hv x0), (.int .i64 x1), (Sl.hv x2)] S (fun v S1 => v = (Sl.hv p.1) ∧ S1 = p.2) :=
  ins_snd (rot := fun a b T => slices_rotateRight_int.f 0 a b T) (zr := [(.int .i64 0)]) (fun _ _ _ h => slices_Insert_int_int.snd (k := 0) h) h
end slices_Insert_int_int_w
namespace set_Set_int_Add
theorem at_ : FnAt Try.prog 53 Try.f53 := ⟨Try.func53, by kernel_rfl⟩
noncomputable def d0 := (Try.f53.body).getD .skip
noncomputable def r1 := kR (kA d0)
noncomputable def r3 := kR (kA (kB d0))
noncomputable def r6 := kR (kA (kA (kB (kB d0))))
noncomputable def r9 := kR (kA (kA (kB (kA (kB (kB d0))))))
noncomputable def d12 := kB (kB (kB d0))
noncomputable def r14 := kR (kA (kA d12))
noncomputable def d16 := kA (kB (kA d12))
noncomputable def r18 := kR (kA (kA d16))
noncomputable def d23 := kB (kB (kA d16))
noncomputable def r26 := kR (kA (kA (kA d23)))
noncomputable def d27 := kB (kA (kA d23))
noncomputable def r28 := kR (kA d27)
noncomputable def r30 := kR (kA (kB d27))
noncomputable def r33 := kR (kA (kA (kB (kB d27))))
noncomputable def r34 := kR (kB (kA (kB (kB d27))))
noncomputable def r36 := kR (kB d23)
noncomputable def r38 := kR (kA (kB d12))
noncomputable def c37 : Code := .seq (.region 12 r38 false) .ret
noncomputable def c36 : Code := .region 11 r36 false
noncomputable def c17 : Code := .seq (.region 5 r18 false) (.seq (.cond (.tmp 15) .skip (.exit 0)) (.seq (.block 1 (.seq (.region 6 r26 false) (.seq (.region 7 r28 false) (.seq (.region 8 r30 false) (.cond (.tmp 28) (.seq (.region 9 r33 false) (.region 10 r34 false)) .skip))))) c36))
noncomputable def c0 : Code := .seq (.region 0 r1 false) (.seq (.region 1 r3 false) (.seq (.seq (.region 2 r6 false) (.cond (.tmp 11) (.seq (.region 3 r9 false) .ret) .skip)) (.seq (.seq (.region 4 r14 false) (.block 0 (.loop c17))) c37)))
theorem body : Try.f53.body = some c0 := by kernel_rfl
section
variable {base : Nat} {W0 : World} {β0 : Bt}
def J1 (k : Nat) (rec0 : (Option HA) → Int → Sl → Int → Int → HS → Option ((Int) × HS)) (y0 : (Option HA)) (y5 : Int) (y12 : Sl) (y13 : Int) (y14 : Int) (S : HS) : Option ((Int) × HS) :=
  rec0 y0 y5 y12 y13 (w64 (y14 + 1)) S
theorem J1_snd {k : Nat} {rec0 : (Option HA) → Int → Sl → Int → Int → HS → Option ((Int) × HS)} (hrec0 : ∀ ⦃y0 : (Option HA)⦄ ⦃y5 : Int⦄ ⦃y12 : Sl⦄ ⦃y13 : Int⦄ ⦃y14 : Int⦄ ⦃S : HS⦄ ⦃p : (Int) × HS⦄ ⦃g1 g2 g3 g4 g6 g7 g8 g9 g10 g11 g15 g16 g17 g18 g19 g20 g21 g22 g23 g24 g25 g26 g27 g28 g29 g30 g31 g32 g33 g34 g35 g36 g37 g38 g39 g40 g41 g42 g43 : HV⦄, rec0 y0 y5 y12 y13 y14 S = some p → HRun Try.prog base W0 β0 53 none [.inLoop c17, .inBlock 0, .code c37] ⟨[(.ptr y0), g1, g2, g3, g4, (.int .i64 y5), g6, g7, g8, g9, g10, g11, (Sl.hv y12), (.int .i64 y13), (.int .i64 y14), g15, g16, g17, g18, g19, g20, g21, g22, g23, g24, g25, g26, g27, g28, g29, g30, g31, g32, g33, g34, g35, g36, g37, g38, g39, g40, g41, g42, g43], []⟩ S (fun v S1 => v = (.int .i64 p.1) ∧ S1 = p.2)) {y0 : (Option HA)} {y5 : Int} {y12 : Sl} {y13 : Int} {y14 : Int} {S : HS} {p : (Int) × HS} {g1 g2 g3 g4 g6 g7 g8 g9 g10 g11 g15 g16 g17 g18 g19 g20 g21 g22 g23 g24 g25 g26 g27 g28 g29 g30 g31 g32 g33 g34 g35 g36 g37 g38 g39 g40 g41 g42 g43 : HV} (h : J1 k rec0 y0 y5 y12 y13 y14 S = some p) : HRun Try.prog base W0 β0 53 none [.code c36, .inLoop c17, .inBlock 0, .code c37] ⟨[(.ptr y0), g1, g2, g3, g4, (.int .i64 y5), g6, g7, g8, g9, g10, g11, (Sl.hv y12), (.int .i64 y13), (.int .i64 y14), g15, g16, g17, g18, g19, g20, g21, g22, g23, g24, g25, g26, g27, g28, g29, g30, g31, g32, g33, g34, g35, g36, g37, g38, g39, g40, g41, g42, g43], []⟩ S (fun v S1 => v = (.int .i64 p.1) ∧ S1 = p.2) := by
  unfold J1 at h
  refine q_region rfl rfl ?_
  refine qS 42 rfl (ok_ibin · (.tmp rfl) (.int _ _) rfl) ?_
  refine qS 14 rfl (ok_move · (.tmp rfl)) ?_
  refine hr_region_end ?_
  try dsimp only [w0, w1, w2, w3]
  try dsimp only [w0, w1, w2, w3]
  exact hrec0 h
def L0 (k : Nat) : Nat → (Option HA) → Int → Sl → Int → Int → HS → Option ((Int) × HS)
  | 0, _, _, _, _, _, _ => none
  | n + 1, y0, y5, y12, y13, y14, S =>
    (if y14 < y13 then
    (Option.bind (HS.idx S y12 y14 1) fun p3 =>
    (Option.bind (HS.ldI S .i64 p3) fun p4 =>
    (Option.bind (y0) fun p5 =>
    (Option.bind (HS.ldSl S (HA.fld p5 0)) fun p6 =>
    (Option.bind (slices_BinarySearch_int_int.f k p6 p4 S) fun p7 =>
    (if (!p7.1.2) = true then
    (Option.bind (y0) fun p9 =>
    (Option.bind (HS.ldSl p7.2 (HA.fld p9 0)) fun p10 =>
    (letv (HS.lit p7.2 [[(.int .i64 p4)]] 1) fun p11 =>
    (Option.bind (slices_Insert_int_int_w.f p10 p7.1.1 (p11.1) (p11.2)) fun p12 =>
    (Option.bind (y0) fun p13 =>
    (Option.bind (HS.sets p12.2 (HA.fld p13 0) [(Sl.hv p12.1)]) fun p14 =>
    J1 k (L0 k n) y0 (w64 (y5 + 1)) y12 y13 y14 p14)))))) else
    J1 k (L0 k n) y0 y5 y12 y13 y14 p7.2)))))) else
    some (y5, S))
theorem L0_snd {k : Nat}  : ∀ {n : Nat} ⦃y0 : (Option HA)⦄ ⦃y5 : Int⦄ ⦃y12 : Sl⦄ ⦃y13 : Int⦄ ⦃y14 : Int⦄ ⦃S : HS⦄ ⦃p : (Int) × HS⦄ ⦃g1 g2 g3 g4 g6 g7 g8 g9 g10 g11 g15 g16 g17 g18 g19 g20 g21 g22 g23 g24 g25 g26 g27 g28 g29 g30 g31 g32 g33 g34 g35 g36 g37 g38 g39 g40 g41 g42 g43 : HV⦄, L0 k n y0 y5 y12 y13 y14 S = some p → HRun Try.prog base W0 β0 53 none [.inLoop c17, .inBlock 0, .code c37] ⟨[(.ptr y0), g1, g2, g3, g4, (.int .i64 y5), g6, g7, g8, g9, g10, g11, (Sl.hv y12), (.int .i64 y13), (.int .i64 y14), g15, g16, g17, g18, g19, g20, g21, g22, g23, g24, g25, g26, g27, g28, g29, g30, g31, g32, g33, g34, g35, g36, g37, g38, g39, g40, g41, g42, g43], []⟩ S (fun v S1 => v = (.int .i64 p.1) ∧ S1 = p.2) := by
  intro n
  induction n with
  | zero => intro _ _ _ _ _ _ _ _ _ _ _ _ _ _ _ _ _ _ _ _ _ _ _ _ _ _ _ _ _ _ _ _ _ _ _ _ _ _ _ _ _ _ _ _ _ _ h; cases h
  | succ n ih =>
    intro y0 y5 y12 y13 y14 S p g1 g2 g3 g4 g6 g7 g8 g9 g10 g11 g15 g16 g17 g18 g19 g20 g21 g22 g23 g24 g25 g26 g27 g28 g29 g30 g31 g32 g33 g34 g35 g36 g37 g38 g39 g40 g41 g42 g43 h
    simp only [L0] at h
    refine hr_inLoop ?_
    refine q_seq rfl ?_
    refine q_region rfl rfl ?_
    refine qS 15 rfl (ok_ibin · (.tmp rfl) (.tmp rfl) rfl) ?_
    refine hr_region_end ?_
    try dsimp only [w0, w1, w2, w3]
    refine q_seq rfl ?_
    rcases ifc h with ⟨hc2, h⟩ | ⟨hc2, h⟩
    · refine q_cond_t rfl (.tmp rfl) (decide_eq_true hc2) ?_
      refine q_skipc rfl ?_
      refine q_seq rfl ?_
      refine q_block rfl ?_
      refine q_seq rfl ?_
      refine q_region rfl rfl ?_
      obtain ⟨p3, hp3, h⟩ := bindo h
      refine qS 16 rfl (ok_indexAddr (s := y12) · tu43 sz3 (.tmp rfl) (.tmp rfl) hp3) ?_
      obtain ⟨p4, hp4, h⟩ := bindo h
      refine qS 17 rfl (ok_load_s · sc3 (.tmp rfl) rfl (ldI_out hp4)) ?_
      refine qS 7 rfl (ok_assign · (.tmp rfl)) ?_
      refine hr_region_end ?_
      try dsimp only [w0, w1, w2, w3]
      refine q_seq rfl ?_
      refine q_region rfl rfl ?_
      refine qS 19 rfl (ok_move · (.tmp rfl)) ?_
      obtain ⟨p5, hp5, h⟩ := bindo h
      refine qS 20 rfl (ok_nilCheck_p · (.tmp rfl) hp5) ?_
      refine qS 21 rfl (ok_fieldAddr_s · fi99_0 (by decide) (.tmp rfl) rfl) ?_
      obtain ⟨p6, hp6, h⟩ := bindo h
      refine qS 22 rfl (ok_load_s · sc43 (.tmp rfl) rfl (ldSl_out hp6)) ?_
      try dsimp only [w0, w1, w2, w3]
      refine qS 23 rfl (ok_move · (.tmp rfl)) ?_
      obtain ⟨p7, hp7, h⟩ := bindo h
      refine q_call (dst := some 24) rfl (.func _) (.cons (.tmp rfl) (.cons (.tmp rfl) Evs.nil)) (HInv.static slices_BinarySearch_int_int.at_ slices_BinarySearch_int_int.body (slices_BinarySearch_int_int.snd  hp7)) ?_
      rintro _ _ ⟨rfl, rfl⟩
      refine qS 18 rfl (ok_move · (.tmp rfl)) ?_
      refine qS 25 rfl (ok_extract · (.tmp rfl) rfl) ?_
      try dsimp only [w0, w1, w2, w3]
      refine qS 26 rfl (ok_extract · (.tmp rfl) rfl) ?_
      refine qS 8 rfl (ok_assign · (.tmp rfl)) ?_
      refine qS 9 rfl (ok_assign · (.tmp rfl)) ?_
      refine hr_region_end ?_
      try dsimp only [w0, w1, w2, w3]
      refine q_seq rfl ?_
      refine q_region rfl rfl ?_
      refine qS 27 rfl (ok_move · (.tmp rfl)) ?_
      refine qS 28 rfl (ok_not · (.tmp rfl)) ?_
      refine hr_region_end ?_
      try dsimp only [w0, w1, w2, w3]
      rcases ifc h with ⟨hc8, h⟩ | ⟨hc8, h⟩
      · refine q_cond_t rfl (.tmp rfl) hc8 ?_
        refine q_seq rfl ?_
        refine q_region rfl rfl ?_
        refine qS 29 rfl (ok_move · (.tmp rfl)) ?_
        refine qS 30 rfl (ok_move · (.tmp rfl)) ?_
        obtain ⟨p9, hp9, h⟩ := bindo h
        refine qS 31 rfl (ok_nilCheck_p · (.tmp rfl) hp9) ?_
        refine qS 32 rfl (ok_fieldAddr_s · fi99_0 (by decide) (.tmp rfl) rfl) ?_
        try dsimp only [w0, w1, w2, w3]
        obtain ⟨p10, hp10, h⟩ := bindo h
        refine qS 33 rfl (ok_load_s · sc43 (.tmp rfl) rfl (ldSl_out hp10)) ?_
        refine qS 34 rfl (ok_move · (.tmp rfl)) ?_
        refine qS 35 rfl (ok_move · (.tmp rfl)) ?_
        obtain ⟨p11, hp11, h⟩ := leto h
        refine qS 36 rfl (ok_buildSlice_s (xs := [(.tmp 35)]) el43 · rfl rfl (by decide) (.cons (.tmp rfl) Evs.nil) rfl rfl hp11) ?_
        try dsimp only [w0, w1, w2, w3]
        obtain ⟨p12, hp12, h⟩ := bindo h
        refine q_call (dst := some 37) rfl (.func _) (.cons (.tmp rfl) (.cons (.tmp rfl) (.cons (.tmp rfl) Evs.nil))) (HInv.static slices_Insert_int_int_w.at_ slices_Insert_int_int_w.body (slices_Insert_int_int_w.snd  hp12)) ?_
        rintro _ _ ⟨rfl, rfl⟩
        obtain ⟨p13, hp13, h⟩ := bindo h
        refine qS 38 rfl (ok_nilCheck_p · (.tmp rfl) hp13) ?_
        refine qS 39 rfl (ok_fieldAddr_s · fi99_0 (by decide) (.tmp rfl) rfl) ?_
        obtain ⟨p14, hp14, h⟩ := bindo h
        refine qN rfl (ok_store_s (v := (Sl.hv p12.1)) · sz43 (.tmp rfl) rfl (.tmp rfl) rfl hp14) ?_
        refine hr_region_end ?_
        try dsimp only [w0, w1, w2, w3]
        refine q_region rfl rfl ?_
        refine qS 40 rfl (ok_move · (.tmp rfl)) ?_
        refine qS 41 rfl (ok_ibin · (.tmp rfl) (.int _ _) rfl) ?_
        refine qS 5 rfl (ok_assign · (.tmp rfl)) ?_
        refine hr_region_end ?_
        try dsimp only [w0, w1, w2, w3]
        refine hr_inBlock ?_
        try dsimp only [w0, w1, w2, w3]
        exact J1_snd ih h
      · refine q_cond_f rfl (.tmp rfl) (bfalse hc8) ?_
        refine q_skipc rfl ?_
        refine hr_inBlock ?_
        try dsimp only [w0, w1, w2, w3]
        exact J1_snd ih h
    · refine q_cond_f rfl (.tmp rfl) (decide_eq_false hc2) ?_
      refine q_exit rfl rfl ?_
      refine q_seq rfl ?_
      refine q_region rfl rfl ?_
      refine qS 43 rfl (ok_move · (.tmp rfl)) ?_
      refine qS 4 rfl (ok_assign · (.tmp rfl)) ?_
      refine hr_region_end ?_
      try dsimp only [w0, w1, w2, w3]
      cases h
      exact q_ret rfl at_.at_ rfl (res1 rfl rfl) ⟨rfl, rfl⟩
def f (k : Nat) (x0 : (Option HA)) (x1 : Sl) (S : HS) : Option ((Int) × HS) :=
  (if (Option.isNone x0) = true then
  some (0, S) else
  L0 k k x0 0 x1 (Sl.len x1 : Int) 0 S)
theorem snd {k : Nat} {x0 : (Option HA)} {x1 : Sl} {S : HS}  {p : (Int) × HS} (h : f k x0 x1 S = some p) : HCall Try.prog base W0 β0 53 [(.ptr x0), (Sl.hv x1)] S (fun v S1 => v = (.int .i64 p.1) ∧ S1 = p.2) := by
  unfold f at h
  refine HCall.of_run at_.at_ body ?_
  show HRun Try.prog base W0 β0 53 none [.code c0] ⟨[(.ptr x0), (Sl.hv x1), τ, τ, τ, τ, τ, τ, τ, τ, τ, τ, τ, τ, τ, τ, τ, τ, τ, τ, τ, τ, τ, τ, τ, τ, τ, τ, τ, τ, τ, τ, τ, τ, τ, τ, τ, τ, τ, τ, τ, τ, τ, τ], []⟩ S _
  refine q_seq rfl ?_
  refine q_region rfl rfl ?_
  refine qS 4 rfl (ok_assign · (.int _ _)) ?_
  refine hr_region_end ?_
  try dsimp only [w0, w1, w2, w3]
  refine q_seq rfl ?_
  refine q_region rfl rfl ?_
  refine qS 5 rfl (ok_assign · (.int _ _)) ?_
  refine hr_region_end ?_
  try dsimp only [w0, w1, w2, w3]
  refine q_seq rfl ?_
  refine q_seq rfl ?_
  refine q_region rfl rfl ?_
  refine qS 10 rfl (ok_move · (.tmp rfl)) ?_
  refine qS 11 rfl (ok_nil_ptr · tu83 (.tmp rfl) (.inl ⟨rfl, rfl⟩)) ?_
  refine hr_region_end ?_
  try dsimp only [w0, w1, w2, w3]
  rcases ifc h with ⟨hc1, h⟩ | ⟨hc1, h⟩
  · refine q_cond_t rfl (.tmp rfl) hc1 ?_
    refine q_seq rfl ?_
    refine q_region rfl rfl ?_
    refine qS 4 rfl (ok_assign · (.int _ _)) ?_
    refine hr_region_end ?_
    try dsimp only [w0, w1, w2, w3]
    cases h
    exact q_ret rfl at_.at_ rfl (res1 rfl rfl) ⟨rfl, rfl⟩
  · refine q_cond_f rfl (.tmp rfl) (bfalse hc1) ?_
    refine q_skipc rfl ?_
    refine q_seq rfl ?_
    refine q_seq rfl ?_
    refine q_region rfl rfl ?_
    refine qS 12 rfl (ok_move · (.tmp rfl)) ?_
    refine qS 13 rfl (ok_len_sl (q := Sl.a x1) (n := Sl.len x1) (z := Sl.cap x1) · rfl tu43 (.tmp rfl)) ?_
    refine qS 14 rfl (ok_move · (.int _ _)) ?_
    refine hr_region_end ?_
    try dsimp only [w0, w1, w2, w3]
    refine q_block rfl ?_
    refine q_loop rfl ?_
    try dsimp only [w0, w1, w2, w3]
    exact L0_snd  h
end
end set_Set_int_Add
namespace set_Of_int
theorem at_ : FnAt Try.prog 52 Try.f52 := ⟨Try.func52, by kernel_rfl⟩
noncomputable def d0 := (Try.f52.body).getD .skip
noncomputable def r1 := kR (kA d0)
noncomputable def r3 := kR (kA (kB d0))
noncomputable def r5 := kR (kA (kB (kB d0)))
noncomputable def r7 := kR (kA (kB (kB (kB d0))))
noncomputable def c0 : Code := .seq (.region 0 r1 false) (.seq (.region 1 r3 false) (.seq (.region 2 r5 false) (.seq (.region 3 r7 false) .ret)))
theorem body : Try.f52.body = some c0 := by kernel_rfl
section
variable {base : Nat} {W0 : World} {β0 : Bt}
def f (k : Nat) (x0 : Sl) (S : HS) : Option (((Option HA)) × HS) :=
  (letv (HS.new S (.cells 1 [[(Sl.hv Sl.nil)]] true)) fun p1 =>
  (Option.bind (set_Set_int_Add.f k (some (HA.cell0 S.next)) x0 p1) fun p2 =>
  some ((some (HA.cell0 S.next)), p2.2)))
theorem snd {k : Nat} {x0 : Sl} {S : HS}  {p : ((Option HA)) × HS} (h : f k x0 S = some p) : HCall Try.prog base W0 β0 52 [(Sl.hv x0)] S (fun v S1 => v = (.ptr p.1) ∧ S1 = p.2) := by
  unfold f at h
  refine HCall.of_run at_.at_ body ?_
  show HRun Try.prog base W0 β0 52 none [.code c0] ⟨[(Sl.hv x0), τ, τ, τ, τ, τ, τ, τ, τ, τ], []⟩ S _
  refine q_seq rfl ?_
  refine q_region rfl rfl ?_
  refine qS 2 rfl (ok_assign · (.const fun _ => .ptrNil)) ?_
  refine hr_region_end ?_
  try dsimp only [w0, w1, w2, w3]
  refine q_seq rfl ?_
  refine q_region rfl rfl ?_
  refine qS 4 rfl (ok_build (is := []) (xs := []) (r := [(Sl.hv Sl.nil)]) st99 · rfl rfl Evs.nil rfl) ?_
  obtain ⟨p1, hp1, h⟩ := leto h
  refine qS 5 rfl (ok_box_e · (.tmp rfl) (Nat.zero_lt_succ _) rfl hp1) ?_
  refine qS 3 rfl (ok_assign · (.tmp rfl)) ?_
  refine hr_region_end ?_
  try dsimp only [w0, w1, w2, w3]
  refine q_seq rfl ?_
  refine q_region rfl rfl ?_
  refine qS 6 rfl (ok_move · (.tmp rfl)) ?_
  refine qS 7 rfl (ok_move · (.tmp rfl)) ?_
  obtain ⟨p2, hp2, h⟩ := bindo h
  refine q_call (dst := some 8) rfl (.func _) (.cons (.tmp rfl) (.cons (.tmp rfl) Evs.nil)) (HInv.static set_Set_int_Add.at_ set_Set_int_Add.body (set_Set_int_Add.snd  hp2)) ?_
  rintro _ _ ⟨rfl, rfl⟩
  refine hr_region_end ?_
  try dsimp only [w0, w1, w2, w3]
  refine q_seq rfl ?_
  refine q_region rfl rfl ?_
  refine qS 9 rfl (ok_move · (.tmp rfl)) ?_
  refine qS 2 rfl (ok_assign · (.tmp rfl)) ?_
  refine hr_region_end ?_
  try dsimp only [w0, w1, w2, w3]
  cases h
  exact q_ret rfl at_.at_ rfl (res1 rfl rfl) ⟨rfl, rfl⟩
end
end set_Of_int
namespace pair_put_string_int
theorem at_ : FnAt Try.prog 34 Try.f34 := ⟨Try.func34, by kernel_rfl⟩
noncomputable def d0 := (Try.f34.body).getD .skip
noncomputable def r2 := kR (kA (kA d0))
noncomputable def r4 := kR (kA (kB (kA d0)))
noncomputable def r6 := kR (kB d0)
noncomputable def c6 : Code := .region 2 r6 false
noncomputable def c0 : Code := .seq (.seq (.region 0 r2 false) (.cond (.tmp 9) (.region 1 r4 false) .skip)) c6
theorem body : Try.f34.body = some c0 := by kernel_rfl
section
variable {base : Nat} {W0 : World} {β0 : Bt}
def J0 (k : Nat) (y0 : (Option Nat)) (y1 : (List UInt8)) (y2 : Int) (S : HS) : Option ((Unit) × HS) :=
  (Option.bind (HS.look S y0 (.str y1)) fun p6 =>
  (Option.bind (dP (Option.getD p6 (.ptr none))) fun p7 =>
  (letv (HS.lit S [[(.int .i64 y2)]] 1) fun p8 =>
  (Option.bind (set_Set_int_Add.f k p7 (p8.1) (p8.2)) fun p9 =>
  some ((), p9.2)))))
theorem J0_snd {k : Nat}  {y0 : (Option Nat)} {y1 : (List UInt8)} {y2 : Int} {S : HS} {p : (Unit) × HS} {g3 g4 g5 g6 g7 g8 g9 g10 g11 g12 g13 g14 g15 g16 g17 g18 : HV} (h : J0 k y0 y1 y2 S = some p) : HRun Try.prog base W0 β0 34 none [.code c6] ⟨[(.map y0), (.str y1), (.int .i64 y2), g3, g4, g5, g6, g7, g8, g9, g10, g11, g12, g13, g14, g15, g16, g17, g18], []⟩ S (fun v S1 => v = (.tup []) ∧ S1 = p.2) := by
  unfold J0 at h
  refine q_region rfl rfl ?_
  refine qS 13 rfl (ok_move · (.tmp rfl)) ?_
  refine qS 14 rfl (ok_move · (.tmp rfl)) ?_
  obtain ⟨p6, hp6, h⟩ := bindo h
  obtain ⟨p7, hp7, h⟩ := bindo h
  refine qS 15 rfl (ok_lookup · tu64 zi83 (fun β => .ptrNil) (keyStr tu9) (.tmp rfl) (.tmp rfl) hp6 (dP_out hp7)) ?_
  refine qS 16 rfl (ok_move · (.tmp rfl)) ?_
  try dsimp only [w0, w1, w2, w3]
  obtain ⟨p8, hp8, h⟩ := leto h
  refine qS 17 rfl (ok_buildSlice_s (xs := [(.tmp 16)]) el43 · rfl rfl (by decide) (.cons (.tmp rfl) Evs.nil) rfl rfl hp8) ?_
  obtain ⟨p9, hp9, h⟩ := bindo h
  refine q_call (dst := some 18) rfl (.func _) (.cons (.tmp rfl) (.cons (.tmp rfl) Evs.nil)) (HInv.static set_Set_int_Add.at_ set_Set_int_Add.body (set_Set_int_Add.snd  hp9)) ?_
  rintro _ _ ⟨rfl, rfl⟩
  refine hr_region_end ?_
  try dsimp only [w0, w1, w2, w3]
  cases h
  exact q_end at_.at_ rfl (res0 rfl) ⟨rfl, rfl⟩
def f (k : Nat) (x0 : (Option Nat)) (x1 : (List UInt8)) (x2 : Int) (S : HS) : Option ((Unit) × HS) :=
  (Option.bind (HS.look S x0 (.str x1)) fun p1 =>
  (Option.bind (dP (Option.getD p1 (.ptr none))) fun p2 =>
  (if (Option.isNone p2) = true then
  (Option.bind (set_Of_int.f k Sl.nil S) fun p4 =>
  (Option.bind (HS.mput p4.2 x0 (.str x1) (.ptr p4.1)) fun p5 =>
  J0 k x0 x1 x2 p5)) else
  J0 k x0 x1 x2 S)))
theorem snd {k : Nat} {x0 : (Option Nat)} {x1 : (List UInt8)} {x2 : Int} {S : HS}  {p : (Unit) × HS} (h : f k x0 x1 x2 S = some p) : HCall Try.prog base W0 β0 34 [(.map x0), (.str x1), (.int .i64 x2)] S (fun v S1 => v = (.tup []) ∧ S1 = p.2) := by
  unfold f at h
  refine HCall.of_run at_.at_ body ?_
  show HRun Try.prog base W0 β0 34 none [.code c0] ⟨[(.map x0), (.str x1), (.int .i64 x2), τ, τ, τ, τ, τ, τ, τ, τ, τ, τ, τ, τ, τ, τ, τ, τ], []⟩ S _
  refine q_seq rfl ?_
  refine q_seq rfl ?_
  refine q_region rfl rfl ?_
  refine qS 6 rfl (ok_move · (.tmp rfl)) ?_
  refine qS 7 rfl (ok_move · (.tmp rfl)) ?_
  obtain ⟨p1, hp1, h⟩ := bindo h
  obtain ⟨p2, hp2, h⟩ := bindo h
  refine qS 8 rfl (ok_lookup · tu64 zi83 (fun β => .ptrNil) (keyStr tu9) (.tmp rfl) (.tmp rfl) hp1 (dP_out hp2)) ?_
  refine qS 9 rfl (ok_nil_ptr · tu83 (.tmp rfl) (.inl ⟨rfl, rfl⟩)) ?_
  refine hr_region_end ?_
  try dsimp only [w0, w1, w2, w3]
  rcases ifc h with ⟨hc3, h⟩ | ⟨hc3, h⟩
  · refine q_cond_t rfl (.tmp rfl) hc3 ?_
    refine q_region rfl rfl ?_
    refine qS 10 rfl (ok_move · (.tmp rfl)) ?_
    refine qS 11 rfl (ok_move · (.tmp rfl)) ?_
    obtain ⟨p4, hp4, h⟩ := bindo h
    refine q_call (dst := some 12) rfl (.func _) (.cons (.const fun _ => .slNil none) Evs.nil) (HInv.static set_Of_int.at_ set_Of_int.body (set_Of_int.snd  hp4)) ?_
    rintro _ _ ⟨rfl, rfl⟩
    obtain ⟨p5, hp5, h⟩ := bindo h
    refine qN rfl (ok_mapUpdate · tu64 (keyStr tu9) (.tmp rfl) (.tmp rfl) (.tmp rfl) hp5) ?_
    refine hr_region_end ?_
    try dsimp only [w0, w1, w2, w3]
    try dsimp only [w0, w1, w2, w3]
    exact J0_snd  h
  · refine q_cond_f rfl (.tmp rfl) (bfalse hc3) ?_
    refine q_skipc rfl ?_
    try dsimp only [w0, w1, w2, w3]
    exact J0_snd  h
end
end pair_put_string_int
namespace pair_Rel_int_string_Add
theorem at_ : FnAt Try.prog 12 Try.f12 := ⟨Try.func12, by kernel_rfl⟩
noncomputable def d0 := (Try.f12.body).getD .skip
noncomputable def r1 := kR (kA d0)
noncomputable def d4 := kA (kA (kB d0))
noncomputable def r5 := kR (kA d4)
noncomputable def r8 := kR (kA (kA (kB d4)))
noncomputable def r11 := kR (kA (kB (kB d4)))
noncomputable def r14 := kR (kA (kA (kB (kB (kB d4)))))
noncomputable def r17 := kR (kA (kB (kB (kB (kB d4)))))
noncomputable def r20 := kR (kA (kA (kB (kB (kB (kB (kB d4)))))))
noncomputable def r24 := kR (kA (kB (kB d0)))
noncomputable def r26 := kR (kA (kB (kB (kB d0))))
noncomputable def r28 := kR (kA (kB (kB (kB (kB d0)))))
noncomputable def r30 := kR (kA (kB (kB (kB (kB (kB d0))))))
noncomputable def c0 : Code := .seq (.region 0 r1 false) (.seq (.block 0 (.seq (.region 1 r5 false) (.cond (.tmp 7) (.seq (.region 2 r8 false) .ret) (.seq (.region 3 r11 false) (.cond (.tmp 10) (.seq (.region 4 r14 false) .ret) (.seq (.region 5 r17 true) (.cond (.tmp 15) (.seq (.region 6 r20 false) .ret) .skip))))))) (.seq (.region 7 r24 false) (.seq (.region 8 r26 false) (.seq (.region 9 r28 false) (.seq (.region 10 r30 false) .ret)))))
theorem body : Try.f12.body = some c0 := by kernel_rfl
section
variable {base : Nat} {W0 : World} {β0 : Bt}
def f (k : Nat) (x0 : (Option HA)) (x1 : Int) (x2 : (List UInt8)) (S : HS) : Option ((Int) × HS) :=
  (if (Option.isNone x0) = true then
  some (1, S) else
  (Option.bind (pair_Rel_int_string_Has.f k x0 x1 x2 S) fun p2 =>
  (if p2.1 = true then
  some (6, p2.2) else
  (Option.bind (pair_Rel_int_string_Count.f x0 x1 p2.2) fun p4 =>
  (Option.bind (x0) fun p5 =>
  (Option.bind (HS.ldI p4.2 .i64 (HA.fld p5 0)) fun p6 =>
  (Option.bind (HS.ldI p2.2 .i64 (HA.fld p5 0)) fun p7 =>
  (if p7 = p6 then
  (if p4.1 ≥ p6 then
  some (7, p4.2) else
  (Option.bind (x0) fun p10 =>
  (Option.bind (HS.ldM p4.2 (HA.fld p10 2)) fun p11 =>
  (Option.bind (pair_put_int_string.f k p11 x1 x2 p4.2) fun p12 =>
  (Option.bind (x0) fun p13 =>
  (Option.bind (HS.ldM p12.2 (HA.fld p13 3)) fun p14 =>
  (Option.bind (pair_put_string_int.f k p14 x2 x1 p12.2) fun p15 =>
  (Option.bind (x0) fun p16 =>
  (Option.bind (HS.ldI p15.2 .i64 (HA.fld p16 1)) fun p17 =>
  (Option.bind (x0) fun p18 =>
  (Option.bind (HS.sets p15.2 (HA.fld p18 1) [(.int .i64 (w64 (p17 + 1)))]) fun p19 =>
  some (0, p19)))))))))))) else none))))))))
theorem snd {k : Nat} {x0 : (Option HA)} {x1 : Int} {x2 : (List UInt8)} {S : HS}  {p : (Int) × HS} (h : f k x0 x1 x2 S = some p) : HCall Try.prog base W0 β0 12 [(.ptr x0), (.int .i64 x1), (.str x2)] S (fun v S1 => v = (.int .i64 p.1) ∧ S1 = p.2) := by
  unfold f at h
  refine HCall.of_run at_.at_ body ?_
  show HRun Try.prog base W0 β0 12 none [.code c0] ⟨[(.ptr x0), (.int .i64 x1), (.str x2), τ, τ, τ, τ, τ, τ, τ, τ, τ, τ, τ, τ, τ, τ, τ, τ, τ, τ, τ, τ, τ, τ, τ, τ, τ, τ, τ, τ, τ, τ, τ, τ, τ, τ, τ, τ, τ, τ, τ, τ, τ, τ], []⟩ S _
  refine q_seq rfl ?_
  refine q_region rfl rfl ?_
  refine qS 6 rfl (ok_assign · (.int _ _)) ?_
  refine hr_region_end ?_
  try dsimp only [w0, w1, w2, w3]
  refine q_seq rfl ?_
  refine q_block rfl ?_
  refine q_seq rfl ?_
  refine q_region rfl rfl ?_
  refine qS 8 rfl (ok_move · (.tmp rfl)) ?_
  refine qS 9 rfl (ok_nil_ptr · tu25 (.tmp rfl) (.inl ⟨rfl, rfl⟩)) ?_
  refine qS 7 rfl (ok_assign · (.tmp rfl)) ?_
  refine hr_region_end ?_
  try dsimp only [w0, w1, w2, w3]
  rcases ifc h with ⟨hc1, h⟩ | ⟨hc1, h⟩
  · refine q_cond_t rfl (.tmp rfl) hc1 ?_
    refine q_seq rfl ?_
    refine q_region rfl rfl ?_
    refine qS 6 rfl (ok_assign · (.int _ _)) ?_
    refine hr_region_end ?_
    try dsimp only [w0, w1, w2, w3]
    cases h
    exact q_ret rfl at_.at_ rfl (res1 rfl rfl) ⟨rfl, rfl⟩
  · refine q_cond_f rfl (.tmp rfl) (bfalse hc1) ?_
    refine q_seq rfl ?_
    refine q_region rfl rfl ?_
    refine qS 11 rfl (ok_move · (.tmp rfl)) ?_
    refine qS 12 rfl (ok_move · (.tmp rfl)) ?_
    refine qS 13 rfl (ok_move · (.tmp rfl)) ?_
    obtain ⟨p2, hp2, h⟩ := bindo h
    refine q_call (dst := some 14) rfl (.func _) (.cons (.tmp rfl) (.cons (.tmp rfl) (.cons (.tmp rfl) Evs.nil))) (HInv.static pair_Rel_int_string_Has.at_ pair_Rel_int_string_Has.body (pair_Rel_int_string_Has.snd  hp2)) ?_
    rintro _ _ ⟨rfl, rfl⟩
    try dsimp only [w0, w1, w2, w3]
    refine qS 10 rfl (ok_assign · (.tmp rfl)) ?_
    refine hr_region_end ?_
    try dsimp only [w0, w1, w2, w3]
    rcases ifc h with ⟨hc3, h⟩ | ⟨hc3, h⟩
    · refine q_cond_t rfl (.tmp rfl) hc3 ?_
      refine q_seq rfl ?_
      refine q_region rfl rfl ?_
      refine qS 6 rfl (ok_assign · (.int _ _)) ?_
      refine hr_region_end ?_
      try dsimp only [w0, w1, w2, w3]
      cases h
      exact q_ret rfl at_.at_ rfl (res1 rfl rfl) ⟨rfl, rfl⟩
    · refine q_cond_f rfl (.tmp rfl) (bfalse hc3) ?_
      refine q_seq rfl ?_
      refine x_start (cls := [0, 0, 2, 0, 0, 0, 3, 0, 0]) (rk := [0, 1, 2, 3, 4, 5, 6, 7, 8]) rfl (by kernel_rfl) ?_
      refine xf 16 [0] rfl (ok_move · (.tmp rfl)) ?_
      refine xf 17 [1] rfl (ok_move · (.tmp rfl)) ?_
      obtain ⟨p4, hp4, h⟩ := bindo h
      refine x_goE (e_call (dst := some 18) (ts := [16, 17]) rfl (by kernel_rfl) (.func _) (.cons (.tmp rfl) (.cons (.tmp rfl) Evs.nil)) (HInv.static pair_Rel_int_string_Count.at_ pair_Rel_int_string_Count.body (pair_Rel_int_string_Count.snd  hp4))) rfl trivial ?_
      refine xf 19 [0] rfl (ok_move · (.tmp rfl)) ?_
      try dsimp only [w0, w1, w2, w3]
      obtain ⟨p5, hp5, h⟩ := bindo h
      refine xf 20 [19] rfl (ok_nilCheck_p · (.tmp rfl) hp5) ?_
      refine xf 21 [20] rfl (ok_fieldAddr_s · fi66_0 (by decide) (.tmp rfl) rfl) ?_
      obtain ⟨p6, hp6, h⟩ := bindo h
      obtain ⟨p7, hp7, h⟩ := bindo h
      obtain ⟨hg8, h⟩ := gd h
      refine x_late (r_op (dst := some 22) (ts := [21]) rfl (by intro _ _ h; cases h) (by kernel_rfl) (fun _ ho => ok_load_s ho sc3 (.tmp rfl) rfl (ldI_out hp6))) rfl ⟨.inr (l_op (dst := some 22) (ts := [21]) rfl (by intro _ _ h; cases h) (by kernel_rfl) (fun _ ho => ok_load_s ho sc3 (.tmp rfl) rfl (ldI_out (hp7.trans (congrArg some hg8))))), trivial⟩ ?_
      refine xf 23 [18, 22] rfl (ok_ibin · (.tmp rfl) (.tmp rfl) rfl) ?_
      try dsimp only [w0, w1, w2, w3]
      refine xf 15 [23] rfl (ok_assign · (.tmp rfl)) ?_
      refine x_rest rfl ?_
      refine hr_region_end ?_
      try dsimp only [w0, w1, w2, w3]
      rcases ifc h with ⟨hc9, h⟩ | ⟨hc9, h⟩
      · refine q_cond_t rfl (.tmp rfl) (decide_eq_true hc9) ?_
        refine q_seq rfl ?_
        refine q_region rfl rfl ?_
        refine qS 6 rfl (ok_assign · (.int _ _)) ?_
        refine hr_region_end ?_
        try dsimp only [w0, w1, w2, w3]
        cases h
        exact q_ret rfl at_.at_ rfl (res1 rfl rfl) ⟨rfl, rfl⟩
      · refine q_cond_f rfl (.tmp rfl) (decide_eq_false hc9) ?_
        refine q_skipc rfl ?_
        refine hr_inBlock ?_
        refine q_seq rfl ?_
        refine q_region rfl rfl ?_
        refine qS 24 rfl (ok_move · (.tmp rfl)) ?_
        obtain ⟨p10, hp10, h⟩ := bindo h
        refine qS 25 rfl (ok_nilCheck_p · (.tmp rfl) hp10) ?_
        refine qS 26 rfl (ok_fieldAddr_s · fi66_2 (by decide) (.tmp rfl) rfl) ?_
        obtain ⟨p11, hp11, h⟩ := bindo h
        refine qS 27 rfl (ok_load_s · sc63 (.tmp rfl) rfl (ldM_out hp11)) ?_
        try dsimp only [w0, w1, w2, w3]
        refine qS 28 rfl (ok_move · (.tmp rfl)) ?_
        refine qS 29 rfl (ok_move · (.tmp rfl)) ?_
        obtain ⟨p12, hp12, h⟩ := bindo h
        refine q_call (dst := some 30) rfl (.func _) (.cons (.tmp rfl) (.cons (.tmp rfl) (.cons (.tmp rfl) Evs.nil))) (HInv.static pair_put_int_string.at_ pair_put_int_string.body (pair_put_int_string.snd  hp12)) ?_
        rintro _ _ ⟨rfl, rfl⟩
        refine hr_region_end ?_
        try dsimp only [w0, w1, w2, w3]
        refine q_seq rfl ?_
        refine q_region rfl rfl ?_
        refine qS 31 rfl (ok_move · (.tmp rfl)) ?_
        obtain ⟨p13, hp13, h⟩ := bindo h
        refine qS 32 rfl (ok_nilCheck_p · (.tmp rfl) hp13) ?_
        refine qS 33 rfl (ok_fieldAddr_s · fi66_3 (by decide) (.tmp rfl) rfl) ?_
        obtain ⟨p14, hp14, h⟩ := bindo h
        refine qS 34 rfl (ok_load_s · sc64 (.tmp rfl) rfl (ldM_out hp14)) ?_
        try dsimp only [w0, w1, w2, w3]
        refine qS 35 rfl (ok_move · (.tmp rfl)) ?_
        refine qS 36 rfl (ok_move · (.tmp rfl)) ?_
        obtain ⟨p15, hp15, h⟩ := bindo h
        refine q_call (dst := some 37) rfl (.func _) (.cons (.tmp rfl) (.cons (.tmp rfl) (.cons (.tmp rfl) Evs.nil))) (HInv.static pair_put_string_int.at_ pair_put_string_int.body (pair_put_string_int.snd  hp15)) ?_
        rintro _ _ ⟨rfl, rfl⟩
        refine hr_region_end ?_
        try dsimp only [w0, w1, w2, w3]
        refine q_seq rfl ?_
        refine q_region rfl rfl ?_
        refine qS 38 rfl (ok_move · (.tmp rfl)) ?_
        obtain ⟨p16, hp16, h⟩ := bindo h
        refine qS 39 rfl (ok_nilCheck_p · (.tmp rfl) hp16) ?_
        refine qS 40 rfl (ok_fieldAddr_s · fi66_1 (by decide) (.tmp rfl) rfl) ?_
        obtain ⟨p17, hp17, h⟩ := bindo h
        refine qS 41 rfl (ok_load_s · sc3 (.tmp rfl) rfl (ldI_out hp17)) ?_
        try dsimp only [w0, w1, w2, w3]
        refine qS 42 rfl (ok_ibin · (.tmp rfl) (.int _ _) rfl) ?_
        obtain ⟨p18, hp18, h⟩ := bindo h
        refine qS 43 rfl (ok_nilCheck_p · (.tmp rfl) hp18) ?_
        refine qS 44 rfl (ok_fieldAddr_s · fi66_1 (by decide) (.tmp rfl) rfl) ?_
        obtain ⟨p19, hp19, h⟩ := bindo h
        refine qN rfl (ok_store_s (v := (.int .i64 (w64 (p17 + 1)))) · sz3 (.tmp rfl) rfl (.tmp rfl) rfl hp19) ?_
        refine hr_region_end ?_
        try dsimp only [w0, w1, w2, w3]
        refine q_seq rfl ?_
        refine q_region rfl rfl ?_
        refine qS 6 rfl (ok_assign · (.int _ _)) ?_
        refine hr_region_end ?_
        try dsimp only [w0, w1, w2, w3]
        cases h
        exact q_ret rfl at_.at_ rfl (res1 rfl rfl) ⟨rfl, rfl⟩
end
end pair_Rel_int_string_Add
namespace pair_Rel_int_string_By_1
theorem at_ : FnAt Try.prog 54 Try.f54 := ⟨Try.func54, by kernel_rfl⟩
noncomputable def d0 := (Try.f54.body).getD .skip
noncomputable def c0 : Code := .skip
theorem body : Try.f54.body = some c0 := by kernel_rfl
section
variable {base : Nat} {W0 : World} {β0 : Bt}
def f (x0 : HV) : Option (Unit) :=
  some ()
theorem snd {x0 : HV} {S : HS}  {p : Unit} (h : f x0 = some p) : HCall Try.prog base W0 β0 54 [x0] S (fun v S1 => v = (.tup []) ∧ S1 = S) := by
  unfold f at h
  refine HCall.of_run at_.at_ body ?_
  show HRun Try.prog base W0 β0 54 none [.code c0] ⟨[x0, τ], []⟩ S _
  refine q_skipc rfl ?_
  cases h
  exact q_end at_.at_ rfl (res0 rfl) ⟨rfl, rfl⟩
end
end pair_Rel_int_string_By_1
namespace slices_Clone_int_int
theorem at_ : FnAt Try.prog 69 Try.f69 := ⟨Try.func69, by kernel_rfl⟩
noncomputable def d0 := (Try.f69.body).getD .skip
noncomputable def r1 := kR (kA d0)
noncomputable def r4 := kR (kA (kA (kB d0)))
noncomputable def r7 := kR (kA (kA (kB (kA (kB d0)))))
noncomputable def r11 := kR (kA (kB (kB d0)))
noncomputable def c0 : Code := .seq (.region 0 r1 false) (.seq (.seq (.region 1 r4 false) (.cond (.tmp 4) (.seq (.region 2 r7 false) .ret) .skip)) (.seq (.region 3 r11 false) .ret))
theorem body : Try.f69.body = some c0 := by kernel_rfl
section
variable {base : Nat} {W0 : World} {β0 : Bt}
def f (x0 : Sl) (S : HS) : Option ((Sl) × HS) :=
  (if (Option.isNone (Sl.a x0)) = true then
  some (Sl.nil, S) else
  (letv (HS.lit S [] 1) fun p2 =>
  (Option.bind (HS.rows (p2.2) x0 1) fun p3 =>
  (Option.bind (HS.app (p2.2) (p2.1) p3 1) fun p4 =>
  some ((p4.1), (p4.2))))))
theorem snd {x0 : Sl} {S : HS}  {p : (Sl) × HS} (h : f x0 S = some p) : HCall Try.prog base W0 β0 69 [(Sl.hv x0)] S (fun v S1 => v = (Sl.hv p.1) ∧ S1 = p.2) := by
  unfold f at h
  refine HCall.of_run at_.at_ body ?_
  show HRun Try.prog base W0 β0 69 none [.code c0] ⟨[(Sl.hv x0), τ, τ, τ, τ, τ, τ, τ], []⟩ S _
  refine q_seq rfl ?_
  refine q_region rfl rfl ?_
  refine qS 2 rfl (ok_assign · (.const fun _ => .slNil none)) ?_
  refine hr_region_end ?_
  try dsimp only [w0, w1, w2, w3]
  refine q_seq rfl ?_
  refine q_seq rfl ?_
  refine q_region rfl rfl ?_
  refine qS 3 rfl (ok_move · (.tmp rfl)) ?_
  refine qS 4 rfl (ok_nil_sl · tu43 (.tmp rfl) (.inl ⟨rfl, rfl⟩)) ?_
  refine hr_region_end ?_
  try dsimp only [w0, w1, w2, w3]
  rcases ifc h with ⟨hc1, h⟩ | ⟨hc1, h⟩
  · refine q_cond_t rfl (.tmp rfl) hc1 ?_
    refine q_seq rfl ?_
    refine q_region rfl rfl ?_
    refine qS 2 rfl (ok_assign · (.const fun _ => .slNil none)) ?_
    refine hr_region_end ?_
    try dsimp only [w0, w1, w2, w3]
    cases h
    exact q_ret rfl at_.at_ rfl (res1 rfl rfl) ⟨rfl, rfl⟩
  · refine q_cond_f rfl (.tmp rfl) (bfalse hc1) ?_
    refine q_skipc rfl ?_
    refine q_seq rfl ?_
    refine q_region rfl rfl ?_
    obtain ⟨p2, hp2, h⟩ := leto h
    refine qS 5 rfl (ok_buildSlice_s (xs := []) el43 · rfl rfl (by decide) Evs.nil rfl rfl hp2) ?_
    refine qS 6 rfl (ok_move · (.tmp rfl)) ?_
    obtain ⟨p3, hp3, h⟩ := bindo h
    obtain ⟨p4, hp4, h⟩ := bindo h
    refine qS 7 rfl (ok_append (s := (p2.1)) (s1 := x0) el43 · rfl rfl ⟨_, tu43⟩ (.tmp rfl) (.tmp rfl) hp3 hp4) ?_
    refine qS 2 rfl (ok_assign · (.tmp rfl)) ?_
    refine hr_region_end ?_
    try dsimp only [w0, w1, w2, w3]
    cases h
    exact q_ret rfl at_.at_ rfl (res1 rfl rfl) ⟨rfl, rfl⟩
end
end slices_Clone_int_int
namespace set_Set_int_List
theorem at_ : FnAt Try.prog 58 Try.f58 := ⟨Try.func58, by kernel_rfl⟩
noncomputable def d0 := (Try.f58.body).getD .skip
noncomputable def r1 := kR (kA d0)
noncomputable def r4 := kR (kA (kA (kB d0)))
noncomputable def r7 := kR (kA (kA (kB (kA (kB d0)))))
noncomputable def r11 := kR (kA (kB (kB d0)))
noncomputable def c0 : Code := .seq (.region 0 r1 false) (.seq (.seq (.region 1 r4 false) (.cond (.tmp 4) (.seq (.region 2 r7 false) .ret) .skip)) (.seq (.region 3 r11 false) .ret))
theorem body : Try.f58.body = some c0 := by kernel_rfl
section
variable {base : Nat} {W0 : World} {β0 : Bt}
def f (x0 : (Option HA)) (S : HS) : Option ((Sl) × HS) :=
  (if (Option.isNone x0) = true then
  some (Sl.nil, S) else
  (Option.bind (x0) fun p2 =>
  (Option.bind (HS.ldSl S (HA.fld p2 0)) fun p3 =>
  (Option.bind (slices_Clone_int_int.f p3 S) fun p4 =>
  some (p4.1, p4.2)))))
theorem snd {x0 : (Option HA)} {S : HS}  {p : (Sl) × HS} (h : f x0 S = some p) : HCall Try.prog base W0 β0 58 [(.ptr x0)] S (fun v S1 => v = (Sl.hv p.1) ∧ S1 = p.2) := by
  unfold f at h
  refine HCall.of_run at_.at_ body ?_
  show HRun Try.prog base W0 β0 58 none [.code c0] ⟨[(.ptr x0), τ, τ, τ, τ, τ, τ, τ, τ, τ], []⟩ S _
  refine q_seq rfl ?_
  refine q_region rfl rfl ?_
  refine qS 2 rfl (ok_assign · (.const fun _ => .slNil none)) ?_
  refine hr_region_end ?_
  try dsimp only [w0, w1, w2, w3]
  refine q_seq rfl ?_
  refine q_seq rfl ?_
  refine q_region rfl rfl ?_
  refine qS 3 rfl (ok_move · (.tmp rfl)) ?_
  refine qS 4 rfl (ok_nil_ptr · tu83 (.tmp rfl) (.inl ⟨rfl, rfl⟩)) ?_
  refine hr_region_end ?_
  try dsimp only [w0, w1, w2, w3]
  rcases ifc h with ⟨hc1, h⟩ | ⟨hc1, h⟩
  · refine q_cond_t rfl (.tmp rfl) hc1 ?_
    refine q_seq rfl ?_
    refine q_region rfl rfl ?_
    refine qS 2 rfl (ok_assign · (.const fun _ => .slNil none)) ?_
    refine hr_region_end ?_
    try dsimp only [w0, w1, w2, w3]
    cases h
    exact q_ret rfl at_.at_ rfl (res1 rfl rfl) ⟨rfl, rfl⟩
  · refine q_cond_f rfl (.tmp rfl) (bfalse hc1) ?_
    refine q_skipc rfl ?_
    refine q_seq rfl ?_
    refine q_region rfl rfl ?_
    refine qS 5 rfl (ok_move · (.tmp rfl)) ?_
    obtain ⟨p2, hp2, h⟩ := bindo h
    refine qS 6 rfl (ok_nilCheck_p · (.tmp rfl) hp2) ?_
    refine qS 7 rfl (ok_fieldAddr_s · fi99_0 (by decide) (.tmp rfl) rfl) ?_
    obtain ⟨p3, hp3, h⟩ := bindo h
    refine qS 8 rfl (ok_load_s · sc43 (.tmp rfl) rfl (ldSl_out hp3)) ?_
    try dsimp only [w0, w1, w2, w3]
    obtain ⟨p4, hp4, h⟩ := bindo h
    refine q_call (dst := some 9) rfl (.func _) (.cons (.tmp rfl) Evs.nil) (HInv.static slices_Clone_int_int.at_ slices_Clone_int_int.body (slices_Clone_int_int.snd  hp4)) ?_
    rintro _ _ ⟨rfl, rfl⟩
    refine qS 2 rfl (ok_assign · (.tmp rfl)) ?_
    refine hr_region_end ?_
    try dsimp only [w0, w1, w2, w3]
    cases h
    exact q_ret rfl at_.at_ rfl (res1 rfl rfl) ⟨rfl, rfl⟩
end
end set_Set_int_List
end Go.Proofs.Ytdgmehfhgppheaa.X
