/- Functions of the program, each as a Lean function over the layer HL: a call answers what the Lean function answers, where it answers. -/
import Derived.Test.YtpjabhpfaahgoaaProg
import Derived.Test.YtpjabhpfaahgoaaSqLay
namespace Go.Proofs.Ytpjabhpfaahgoaa.X
open Go.Proofs.Ytpjabhpfaahgoaa.HL
set_option linter.unusedVariables false
set_option linter.unusedSimpArgs false
set_option maxRecDepth 20000
set_option maxHeartbeats 4000000
theorem st53 : StructAt Try.prog 53 [(0, 1), (1, 1), (2, 1), (3, 1), (4, 1)] [(.int .i64 0), (Sl.hv Sl.nil), (.int .i64 0), (.int .i64 0), (.bool false)] := structAt_mk (zv := (.agg #[(.int .i64 0), (.slice none 0 0), (.int .i64 0), (.int .i64 0), (.bool false)])) (by kernel_rfl) (by kernel_rfl) (fun β => VRels.cons (.int _ _) (VRels.cons (.slNil none) (VRels.cons (.int _ _) (VRels.cons (.int _ _) (VRels.cons (.bool _) (VRels.nil β))))))
theorem ext34 : ExtAt Try.prog 34 Extern.BytealgIndexByte.indexByte := ⟨Try.f34, Try.func34, by kernel_rfl, by kernel_rfl, by kernel_rfl, by kernel_rfl⟩
theorem tu3 : Try.prog.underlying 3 = some (.int .i64) := by kernel_rfl
theorem tu5 : Try.prog.underlying 5 = some (.int .u8) := by kernel_rfl
theorem za61 : (Try.prog.info? 61).map (·.zero) = some (some (.agg (Array.replicate 256 (.int .u16 0)))) := by kernel_rfl
theorem ta61 : Try.prog.underlying 61 = some (.array 256 59) := by kernel_rfl
theorem sz59 : ∃ q, Try.prog.info? 59 = some q ∧ q.size = 1 := size_mk' (by kernel_rfl)
theorem sc59 : Scalar Try.prog 59 := ⟨(.int .u16), by kernel_rfl, trivial⟩
theorem ia61 : IsAgg Try.prog 61 256 := isAgg_mk2 (by kernel_rfl) (by kernel_rfl)
theorem sz61 : ∃ q, Try.prog.info? 61 = some q ∧ q.size = 256 := size_mk' (by kernel_rfl)
theorem tu9 : Try.prog.underlying 9 = some .string := by kernel_rfl
theorem tu25 : Try.prog.underlying 25 = some (.pointer 53) := by kernel_rfl
theorem fi53_1 : fieldInfo Try.prog 53 1 = some (1, 31, 1) := by kernel_rfl
theorem sc31 : Scalar Try.prog 31 := ⟨(.slice 5), by kernel_rfl, trivial⟩
theorem tu31 : Try.prog.underlying 31 = some (.slice 5) := by kernel_rfl
theorem fi53_0 : fieldInfo Try.prog 53 0 = some (0, 3, 1) := by kernel_rfl
theorem sc3 : Scalar Try.prog 3 := ⟨(.int .i64), by kernel_rfl, trivial⟩
theorem fi53_4 : fieldInfo Try.prog 53 4 = some (4, 4, 1) := by kernel_rfl
theorem sz4 : ∃ q, Try.prog.info? 4 = some q ∧ q.size = 1 := size_mk' (by kernel_rfl)
theorem el31 : ElemAt Try.prog 31 5 1 [(.int .u8 0)] := elemAt_mk (zv := (.int .u8 0)) (by_ := 1) (by kernel_rfl) (by kernel_rfl) (by decide) (fun β => VRels.cons (.int _ _) (VRels.nil β)) rfl (by decide) rfl
theorem sz31 : ∃ q, Try.prog.info? 31 = some q ∧ q.size = 1 := size_mk' (by kernel_rfl)
theorem sc4 : Scalar Try.prog 4 := ⟨.bool, by kernel_rfl, trivial⟩
theorem sz5 : ∃ q, Try.prog.info? 5 = some q ∧ q.size = 1 := size_mk' (by kernel_rfl)
theorem sc5 : Scalar Try.prog 5 := ⟨(.int .u8), by kernel_rfl, trivial⟩
theorem si5 : SizeIs Try.prog 5 1 1 := sizeIs_mk (by kernel_rfl)
theorem fi53_2 : fieldInfo Try.prog 53 2 = some (2, 3, 1) := by kernel_rfl
theorem sz3 : ∃ q, Try.prog.info? 3 = some q ∧ q.size = 1 := size_mk' (by kernel_rfl)
theorem fi53_3 : fieldInfo Try.prog 53 3 = some (3, 3, 1) := by kernel_rfl
theorem sc9 : Scalar Try.prog 9 := ⟨.string, by kernel_rfl, trivial⟩
theorem zi9 : (Try.prog.info? 9).map (·.zero) = some (some (.string ⟨#[]⟩)) := by kernel_rfl
theorem zr9 : ∀ β, VRels β [(.str [])] (Value.cells (.string ⟨#[]⟩)) := fun β => VRels.cons (.str []) (VRels.nil β)
theorem sz9 : ∃ q, Try.prog.info? 9 = some q ∧ q.size = 1 := size_mk' (by kernel_rfl)
theorem tu50 : Try.prog.underlying 50 = some (.func #[33] #[] false) := by kernel_rfl
theorem zi3 : (Try.prog.info? 3).map (·.zero) = some (some (.int .i64 0)) := by kernel_rfl
theorem zr3 : ∀ β, VRels β [(.int .i64 0)] (Value.cells (.int .i64 0)) := fun β => VRels.cons (.int _ _) (VRels.nil β)
theorem fi40_2 : fieldInfo Try.prog 40 2 = some (2, 9, 1) := by kernel_rfl
theorem fi40_3 : fieldInfo Try.prog 40 3 = some (3, 3, 1) := by kernel_rfl
theorem fi40_4 : fieldInfo Try.prog 40 4 = some (4, 4, 1) := by kernel_rfl
theorem fi40_0 : fieldInfo Try.prog 40 0 = some (0, 3, 1) := by kernel_rfl
theorem el36 : ElemAt Try.prog 36 9 1 [(.str [])] := elemAt_mk (zv := (.string ⟨#[]⟩)) (by_ := 16) (by kernel_rfl) (by kernel_rfl) (by decide) (fun β => VRels.cons (.str []) (VRels.nil β)) rfl (by decide) rfl
theorem fi40_1 : fieldInfo Try.prog 40 1 = some (1, 36, 1) := by kernel_rfl
theorem sc36 : Scalar Try.prog 36 := ⟨(.slice 9), by kernel_rfl, trivial⟩
theorem tu36 : Try.prog.underlying 36 = some (.slice 9) := by kernel_rfl
theorem sz36 : ∃ q, Try.prog.info? 36 = some q ∧ q.size = 1 := size_mk' (by kernel_rfl)
theorem zi36 : (Try.prog.info? 36).map (·.zero) = some (some (.slice none 0 0)) := by kernel_rfl
theorem zr36 : ∀ β, VRels β [(Sl.hv Sl.nil)] (Value.cells (.slice none 0 0)) := fun β => VRels.cons (.slNil none) (VRels.nil β)
theorem zi4 : (Try.prog.info? 4).map (·.zero) = some (some (.bool false)) := by kernel_rfl
theorem zr4 : ∀ β, VRels β [(.bool false)] (Value.cells (.bool false)) := fun β => VRels.cons (.bool _) (VRels.nil β)
theorem tu23 : Try.prog.underlying 23 = some (.slice 30) := by kernel_rfl
theorem sz30 : ∃ q, Try.prog.info? 30 = some q ∧ q.size = 3 := size_mk' (by kernel_rfl)
theorem fi30_1 : fieldInfo Try.prog 30 1 = some (1, 9, 1) := by kernel_rfl
theorem st40 : StructAt Try.prog 40 [(0, 1), (1, 1), (2, 1), (3, 1), (4, 1)] [(.int .i64 0), (Sl.hv Sl.nil), (.str []), (.int .i64 0), (.bool false)] := structAt_mk (zv := (.agg #[(.int .i64 0), (.slice none 0 0), (.string ⟨#[]⟩), (.int .i64 0), (.bool false)])) (by kernel_rfl) (by kernel_rfl) (fun β => VRels.cons (.int _ _) (VRels.cons (.slNil none) (VRels.cons (.str []) (VRels.cons (.int _ _) (VRels.cons (.bool _) (VRels.nil β))))))
theorem fi30_0 : fieldInfo Try.prog 30 0 = some (0, 3, 1) := by kernel_rfl
theorem fi30_2 : fieldInfo Try.prog 30 2 = some (2, 3, 1) := by kernel_rfl
theorem tu4 : Try.prog.underlying 4 = some .bool := by kernel_rfl
namespace sendq_New
theorem at_ : FnAt Try.prog 8 Try.f8 := ⟨Try.func8, by kernel_rfl⟩
noncomputable def d0 := (Try.f8.body).getD .skip
noncomputable def r1 := kR (kA d0)
noncomputable def r4 := kR (kA (kA (kB d0)))
noncomputable def r7 := kR (kA (kA (kB (kA (kB d0)))))
noncomputable def r11 := kR (kA (kB (kB d0)))
noncomputable def c10 : Code := .seq (.region 3 r11 false) .ret
noncomputable def c5 : Code := .cond (.tmp 9) (.seq (.region 2 r7 false) .ret) .skip
noncomputable def c0 : Code := .seq (.region 0 r1 false) (.seq (.seq (.region 1 r4 false) c5) c10)
theorem body : Try.f8.body = some c0 := by kernel_rfl
section
variable {base : Nat} {W0 : World} {β0 : Bt}
def J0  (y0 : Int) (y9 : Bool) (S : HS) : Option (((Option HA) × Int) × HS) :=
  (if y9 = true then
  some ((none, 2), S) else
  (letv (HS.new S (.cells 5 [[(.int .i64 y0), (Sl.hv Sl.nil), (.int .i64 0), (.int .i64 0), (.bool false)]] true)) fun p3 =>
  some (((some (HA.cell0 S.next)), 0), p3)))
theorem J0_snd   {y0 : Int} {y9 : Bool} {S : HS} {p : ((Option HA) × Int) × HS} {g1 g2 g3 g4 g5 g6 g7 g8 g10 g11 g12 : HV} (h : J0  y0 y9 S = some p) : HRun Try.prog base W0 β0 8 none [.code c5, .code c10] ⟨[(.int .i64 y0), g1, g2, g3, g4, g5, g6, g7, g8, (.bool y9), g10, g11, g12], []⟩ S (fun v S1 => v = (.tup [(.ptr p.1.1), (.int .i64 p.1.2)]) ∧ S1 = p.2) := by
  unfold J0 at h
  rcases ifc h with ⟨hc2, h⟩ | ⟨hc2, h⟩
  · refine q_cond_t rfl (.tmp rfl) hc2 ?_
    refine q_seq rfl ?_
    refine q_region rfl rfl ?_
    refine qS 2 rfl (ok_assign · (.const fun _ => .ptrNil)) ?_
    refine qS 3 rfl (ok_assign · (.int _ _)) ?_
    refine hr_region_end ?_
    try dsimp only [w0, w1, w2, w3]
    cases h
    exact q_ret rfl at_.at_ rfl (res2 rfl rfl rfl) ⟨rfl, rfl⟩
  · refine q_cond_f rfl (.tmp rfl) (bfalse hc2) ?_
    refine q_skipc rfl ?_
    refine q_seq rfl ?_
    refine q_region rfl rfl ?_
    refine qS 10 rfl (ok_move · (.tmp rfl)) ?_
    refine qS 11 rfl (ok_build (is := [0]) (xs := [(.tmp 10)]) (r := [(.int .i64 y0), (Sl.hv Sl.nil), (.int .i64 0), (.int .i64 0), (.bool false)]) st53 · rfl rfl (.cons (.tmp rfl) Evs.nil) rfl) ?_
    obtain ⟨p3, hp3, h⟩ := leto h
    refine qS 12 rfl (ok_box_e · (.tmp rfl) (Nat.zero_lt_succ _) rfl hp3) ?_
    refine qS 2 rfl (ok_assign · (.tmp rfl)) ?_
    try dsimp only [w0, w1, w2, w3]
    refine qS 3 rfl (ok_assign · (.int _ _)) ?_
    refine hr_region_end ?_
    try dsimp only [w0, w1, w2, w3]
    cases h
    exact q_ret rfl at_.at_ rfl (res2 rfl rfl rfl) ⟨rfl, rfl⟩
def f (x0 : Int) (S : HS) : Option (((Option HA) × Int) × HS) :=
  (if x0 < 512 then
  J0 x0 true S else
  J0 x0 (decide (x0 > 65536)) S)
theorem snd {x0 : Int} {S : HS}  {p : ((Option HA) × Int) × HS} (h : f x0 S = some p) : HCall Try.prog base W0 β0 8 [(.int .i64 x0)] S (fun v S1 => v = (.tup [(.ptr p.1.1), (.int .i64 p.1.2)]) ∧ S1 = p.2) := by
  unfold f at h
  refine HCall.of_run at_.at_ body ?_
  show HRun Try.prog base W0 β0 8 none [.code c0] ⟨[(.int .i64 x0), τ, τ, τ, τ, τ, τ, τ, τ, τ, τ, τ, τ], []⟩ S _
  refine q_seq rfl ?_
  refine q_region rfl rfl ?_
  refine qS 2 rfl (ok_assign · (.const fun _ => .ptrNil)) ?_
  refine qS 3 rfl (ok_assign · (.int _ _)) ?_
  refine hr_region_end ?_
  try dsimp only [w0, w1, w2, w3]
  refine q_seq rfl ?_
  refine q_seq rfl ?_
  refine q_region rfl rfl ?_
  refine qS 4 rfl (ok_move · (.tmp rfl)) ?_
  refine qS 5 rfl (ok_ibin · (.tmp rfl) (.int _ _) rfl) ?_
  refine qS 6 rfl (ok_move · (.tmp rfl)) ?_
  rcases ifc h with ⟨hc1, h⟩ | ⟨hc1, h⟩
  · refine q_skip (dst := some 7) (t := 6) rfl rfl rfl (decide_eq_true hc1) ?_
    try dsimp only [w0, w1, w2, w3]
    refine q_skip (dst := some 8) (t := 6) rfl rfl rfl (decide_eq_true hc1) ?_
    refine qS 9 rfl (ok_pick_tt · (.tmp rfl) (decide_eq_true hc1) (.bool _)) ?_
    refine hr_region_end ?_
    try dsimp only [w0, w1, w2, w3]
    try dsimp only [w0, w1, w2, w3]
    exact J0_snd  h
  · refine qG 6 7 rfl (decide_eq_false hc1) (ok_move · (.tmp rfl)) ?_
    try dsimp only [w0, w1, w2, w3]
    refine qG 6 8 rfl (decide_eq_false hc1) (ok_ibin · (.tmp rfl) (.int _ _) rfl) ?_
    refine qS 9 rfl (ok_pick_ff · (.tmp rfl) (decide_eq_false hc1) (.tmp rfl)) ?_
    refine hr_region_end ?_
    try dsimp only [w0, w1, w2, w3]
    try dsimp only [w0, w1, w2, w3]
    exact J0_snd  h
end
end sendq_New
namespace valid_letter
theorem at_ : FnAt Try.prog 35 Try.f35 := ⟨Try.func35, by kernel_rfl⟩
noncomputable def d0 := (Try.f35.body).getD .skip
noncomputable def r1 := kR (kA d0)
noncomputable def r3 := kR (kA (kB d0))
noncomputable def c4 : Code := .ret
noncomputable def c0 : Code := .seq (.region 0 r1 false) (.seq (.region 1 r3 false) c4)
theorem body : Try.f35.body = some c0 := by kernel_rfl
section
variable {base : Nat} {W0 : World} {β0 : Bt}
def J1  (y16 : Bool) : Option (Bool) :=
  some y16
theorem J1_snd   {y16 : Bool} {S : HS} {p : Bool} {g0 g1 g2 g3 g4 g5 g6 g7 g8 g9 g10 g11 g12 g13 g14 g15 : HV} (h : J1  y16 = some p) : HRun Try.prog base W0 β0 35 none [.inRegion r3 [14], .code c4] ⟨[g0, g1, g2, g3, g4, g5, g6, g7, g8, g9, g10, g11, g12, g13, g14, g15, (.bool y16)], []⟩ S (fun v S1 => v = (.bool p) ∧ S1 = S) := by
  unfold J1 at h
  refine qS 2 rfl (ok_assign · (.tmp rfl)) ?_
  refine hr_region_end ?_
  try dsimp only [w0, w1, w2, w3]
  cases h
  exact q_ret rfl at_.at_ rfl (res1 rfl rfl) ⟨rfl, rfl⟩
def J2  (y9 : Bool) (y15 : Bool) : Option (Bool) :=
  (if y9 = true then
  J1 true else
  J1 y15)
theorem J2_snd   {y9 : Bool} {y15 : Bool} {S : HS} {p : Bool} {g0 g1 g2 g3 g4 g5 g6 g7 g8 g10 g11 g12 g13 g14 g16 : HV} (h : J2  y9 y15 = some p) : HRun Try.prog base W0 β0 35 none [.inRegion r3 [13, 14], .code c4] ⟨[g0, g1, g2, g3, g4, g5, g6, g7, g8, (.bool y9), g10, g11, g12, g13, g14, (.bool y15), g16], []⟩ S (fun v S1 => v = (.bool p) ∧ S1 = S) := by
  unfold J2 at h
  rcases ifc h with ⟨hc4, h⟩ | ⟨hc4, h⟩
  · refine qS 16 rfl (ok_pick_tt · (.tmp rfl) hc4 (.bool _)) ?_
    try dsimp only [w0, w1, w2, w3]
    exact J1_snd  h
  · refine qS 16 rfl (ok_pick_ff · (.tmp rfl) (bfalse hc4) (.tmp rfl)) ?_
    try dsimp only [w0, w1, w2, w3]
    exact J1_snd  h
def J0  (y0 : Int) (y8 : Bool) : Option (Bool) :=
  (if y8 = true then
  J1 true else
  (if y0 ≥ 65 then
  J2 y8 (decide (y0 ≤ 90)) else
  J2 y8 false))
theorem J0_snd   {y0 : Int} {y8 : Bool} {S : HS} {p : Bool} {g1 g2 g3 g4 g5 g6 g7 g9 g10 g11 g12 g13 g14 g15 g16 : HV} (h : J0  y0 y8 = some p) : HRun Try.prog base W0 β0 35 none [.inRegion r3 [6, 7, 8, 9, 10, 11, 12, 13, 14], .code c4] ⟨[(.int .i64 y0), g1, g2, g3, g4, g5, g6, g7, (.bool y8), g9, g10, g11, g12, g13, g14, g15, g16], []⟩ S (fun v S1 => v = (.bool p) ∧ S1 = S) := by
  unfold J0 at h
  refine qS 9 rfl (ok_move · (.tmp rfl)) ?_
  rcases ifc h with ⟨hc2, h⟩ | ⟨hc2, h⟩
  · refine q_skip (dst := some 10) (t := 9) rfl rfl rfl hc2 ?_
    try dsimp only [w0, w1, w2, w3]
    refine q_skip (dst := some 11) (t := 9) rfl rfl rfl hc2 ?_
    refine q_skip (dst := some 12) (t := 9) rfl rfl rfl hc2 ?_
    refine q_skip_u (dst := some 13) (t := 12) rfl rfl rfl ?_
    refine q_skip_u (dst := some 14) (t := 12) rfl rfl rfl ?_
    try dsimp only [w0, w1, w2, w3]
    refine q_skip (dst := some 15) (t := 9) rfl rfl rfl hc2 ?_
    refine qS 16 rfl (ok_pick_tt · (.tmp rfl) hc2 (.bool _)) ?_
    try dsimp only [w0, w1, w2, w3]
    exact J1_snd  h
  · refine qG 9 10 rfl (bfalse hc2) (ok_move · (.tmp rfl)) ?_
    try dsimp only [w0, w1, w2, w3]
    refine qG 9 11 rfl (bfalse hc2) (ok_ibin · (.tmp rfl) (.int _ _) rfl) ?_
    refine qG 9 12 rfl (bfalse hc2) (ok_move · (.tmp rfl)) ?_
    rcases ifc h with ⟨hc3, h⟩ | ⟨hc3, h⟩
    · refine qG 12 13 rfl (decide_eq_true hc3) (ok_move · (.tmp rfl)) ?_
      refine qG 12 14 rfl (decide_eq_true hc3) (ok_ibin · (.tmp rfl) (.int _ _) rfl) ?_
      try dsimp only [w0, w1, w2, w3]
      refine qG 9 15 rfl (bfalse hc2) (ok_pick_tt · (.tmp rfl) (decide_eq_true hc3) (.tmp rfl)) ?_
      try dsimp only [w0, w1, w2, w3]
      exact J2_snd  h
    · refine q_skip (dst := some 13) (t := 12) rfl rfl rfl (decide_eq_false hc3) ?_
      refine q_skip (dst := some 14) (t := 12) rfl rfl rfl (decide_eq_false hc3) ?_
      try dsimp only [w0, w1, w2, w3]
      refine qG 9 15 rfl (bfalse hc2) (ok_pick_ff · (.tmp rfl) (decide_eq_false hc3) (.bool _)) ?_
      try dsimp only [w0, w1, w2, w3]
      exact J2_snd  h
def f (x0 : Int) : Option (Bool) :=
  (if x0 ≥ 97 then
  J0 x0 (decide (x0 ≤ 122)) else
  J0 x0 false)
theorem snd {x0 : Int} {S : HS}  {p : Bool} (h : f x0 = some p) : HCall Try.prog base W0 β0 35 [(.int .i64 x0)] S (fun v S1 => v = (.bool p) ∧ S1 = S) := by
  unfold f at h
  refine HCall.of_run at_.at_ body ?_
  show HRun Try.prog base W0 β0 35 none [.code c0] ⟨[(.int .i64 x0), τ, τ, τ, τ, τ, τ, τ, τ, τ, τ, τ, τ, τ, τ, τ, τ], []⟩ S _
  refine q_seq rfl ?_
  refine q_region rfl rfl ?_
  refine qS 2 rfl (ok_assign · (.bool _)) ?_
  refine hr_region_end ?_
  try dsimp only [w0, w1, w2, w3]
  refine q_seq rfl ?_
  refine q_region rfl rfl ?_
  refine qS 3 rfl (ok_move · (.tmp rfl)) ?_
  refine qS 4 rfl (ok_ibin · (.tmp rfl) (.int _ _) rfl) ?_
  refine qS 5 rfl (ok_move · (.tmp rfl)) ?_
  rcases ifc h with ⟨hc1, h⟩ | ⟨hc1, h⟩
  · refine qG 5 6 rfl (decide_eq_true hc1) (ok_move · (.tmp rfl)) ?_
    try dsimp only [w0, w1, w2, w3]
    refine qG 5 7 rfl (decide_eq_true hc1) (ok_ibin · (.tmp rfl) (.int _ _) rfl) ?_
    refine qS 8 rfl (ok_pick_tt · (.tmp rfl) (decide_eq_true hc1) (.tmp rfl)) ?_
    try dsimp only [w0, w1, w2, w3]
    exact J0_snd  h
  · refine q_skip (dst := some 6) (t := 5) rfl rfl rfl (decide_eq_false hc1) ?_
    try dsimp only [w0, w1, w2, w3]
    refine q_skip (dst := some 7) (t := 5) rfl rfl rfl (decide_eq_false hc1) ?_
    refine qS 8 rfl (ok_pick_ff · (.tmp rfl) (decide_eq_false hc1) (.bool _)) ?_
    try dsimp only [w0, w1, w2, w3]
    exact J0_snd  h
end
end valid_letter
namespace internal_stringslite_IndexByte
theorem at_ : FnAt Try.prog 31 Try.f31 := ⟨Try.func31, by kernel_rfl⟩
noncomputable def d0 := (Try.f31.body).getD .skip
noncomputable def r1 := kR (kA d0)
noncomputable def r3 := kR (kA (kB d0))
noncomputable def c0 : Code := .seq (.region 0 r1 false) (.seq (.region 1 r3 false) .ret)
theorem body : Try.f31.body = some c0 := by kernel_rfl
section
variable {base : Nat} {W0 : World} {β0 : Bt}
def f (x0 : (List UInt8)) (x1 : Int) : Option (Int) :=
  some (bidx x0 x1)
theorem snd {x0 : (List UInt8)} {x1 : Int} {S : HS}  {p : Int} (h : f x0 x1 = some p) : HCall Try.prog base W0 β0 31 [(.str x0), (.int .u8 x1)] S (fun v S1 => v = (.int .i64 p) ∧ S1 = S) := by
  unfold f at h
  refine HCall.of_run at_.at_ body ?_
  show HRun Try.prog base W0 β0 31 none [.code c0] ⟨[(.str x0), (.int .u8 x1), τ, τ, τ, τ, τ, τ], []⟩ S _
  refine q_seq rfl ?_
  refine q_region rfl rfl ?_
  refine qS 4 rfl (ok_assign · (.int _ _)) ?_
  refine hr_region_end ?_
  try dsimp only [w0, w1, w2, w3]
  refine q_seq rfl ?_
  refine q_region rfl rfl ?_
  refine qS 5 rfl (ok_move · (.tmp rfl)) ?_
  refine qS 6 rfl (ok_move · (.tmp rfl)) ?_
  refine qS 7 rfl (ok_idxByte · ext34 (.tmp rfl) (.tmp rfl)) ?_
  refine qS 4 rfl (ok_assign · (.tmp rfl)) ?_
  refine hr_region_end ?_
  try dsimp only [w0, w1, w2, w3]
  cases h
  exact q_ret rfl at_.at_ rfl (res1 rfl rfl) ⟨rfl, rfl⟩
end
end internal_stringslite_IndexByte
namespace strings_IndexByte
theorem at_ : FnAt Try.prog 27 Try.f27 := ⟨Try.func27, by kernel_rfl⟩
noncomputable def d0 := (Try.f27.body).getD .skip
noncomputable def r1 := kR (kA d0)
noncomputable def r3 := kR (kA (kB d0))
noncomputable def c0 : Code := .seq (.region 0 r1 false) (.seq (.region 1 r3 false) .ret)
theorem body : Try.f27.body = some c0 := by kernel_rfl
section
variable {base : Nat} {W0 : World} {β0 : Bt}
def f (x0 : (List UInt8)) (x1 : Int) : Option (Int) :=
  (Option.bind (internal_stringslite_IndexByte.f x0 x1) fun p1 =>
  some p1)
theorem snd {x0 : (List UInt8)} {x1 : Int} {S : HS}  {p : Int} (h : f x0 x1 = some p) : HCall Try.prog base W0 β0 27 [(.str x0), (.int .u8 x1)] S (fun v S1 => v = (.int .i64 p) ∧ S1 = S) := by
  unfold f at h
  refine HCall.of_run at_.at_ body ?_
  show HRun Try.prog base W0 β0 27 none [.code c0] ⟨[(.str x0), (.int .u8 x1), τ, τ, τ, τ, τ, τ], []⟩ S _
  refine q_seq rfl ?_
  refine q_region rfl rfl ?_
  refine qS 4 rfl (ok_assign · (.int _ _)) ?_
  refine hr_region_end ?_
  try dsimp only [w0, w1, w2, w3]
  refine q_seq rfl ?_
  refine q_region rfl rfl ?_
  refine qS 5 rfl (ok_move · (.tmp rfl)) ?_
  refine qS 6 rfl (ok_move · (.tmp rfl)) ?_
  obtain ⟨p1, hp1, h⟩ := bindo h
  refine q_call (dst := some 7) rfl (.func _) (.cons (.tmp rfl) (.cons (.tmp rfl) Evs.nil)) (HInv.static internal_stringslite_IndexByte.at_ internal_stringslite_IndexByte.body (internal_stringslite_IndexByte.snd  hp1)) ?_
  rintro _ _ ⟨rfl, rfl⟩
  refine qS 4 rfl (ok_assign · (.tmp rfl)) ?_
  refine hr_region_end ?_
  try dsimp only [w0, w1, w2, w3]
  cases h
  exact q_ret rfl at_.at_ rfl (res1 rfl rfl) ⟨rfl, rfl⟩
end
end strings_IndexByte
namespace valid_has
theorem at_ : FnAt Try.prog 36 Try.f36 := ⟨Try.func36, by kernel_rfl⟩
noncomputable def d0 := (Try.f36.body).getD .skip
noncomputable def r1 := kR (kA d0)
noncomputable def r3 := kR (kA (kB d0))
noncomputable def c0 : Code := .seq (.region 0 r1 false) (.seq (.region 1 r3 false) .ret)
theorem body : Try.f36.body = some c0 := by kernel_rfl
section
variable {base : Nat} {W0 : World} {β0 : Bt}
def f (x0 : (List UInt8)) (x1 : Int) : Option (Bool) :=
  (Option.bind (strings_IndexByte.f x0 (w8 x1)) fun p1 =>
  some (decide (p1 ≥ 0)))
theorem snd {x0 : (List UInt8)} {x1 : Int} {S : HS}  {p : Bool} (h : f x0 x1 = some p) : HCall Try.prog base W0 β0 36 [(.str x0), (.int .i64 x1)] S (fun v S1 => v = (.bool p) ∧ S1 = S) := by
  unfold f at h
  refine HCall.of_run at_.at_ body ?_
  show HRun Try.prog base W0 β0 36 none [.code c0] ⟨[(.str x0), (.int .i64 x1), τ, τ, τ, τ, τ, τ, τ, τ], []⟩ S _
  refine q_seq rfl ?_
  refine q_region rfl rfl ?_
  refine qS 4 rfl (ok_assign · (.bool _)) ?_
  refine hr_region_end ?_
  try dsimp only [w0, w1, w2, w3]
  refine q_seq rfl ?_
  refine q_region rfl rfl ?_
  refine qS 5 rfl (ok_move · (.tmp rfl)) ?_
  refine qS 6 rfl (ok_move · (.tmp rfl)) ?_
  refine qS 7 rfl (ok_conv_int · tu3 tu5 (.tmp rfl)) ?_
  obtain ⟨p1, hp1, h⟩ := bindo h
  refine q_call (dst := some 8) rfl (.func _) (.cons (.tmp rfl) (.cons (.tmp rfl) Evs.nil)) (HInv.static strings_IndexByte.at_ strings_IndexByte.body (strings_IndexByte.snd  hp1)) ?_
  rintro _ _ ⟨rfl, rfl⟩
  try dsimp only [w0, w1, w2, w3]
  refine qS 9 rfl (ok_ibin · (.tmp rfl) (.int _ _) rfl) ?_
  refine qS 4 rfl (ok_assign · (.tmp rfl)) ?_
  refine hr_region_end ?_
  try dsimp only [w0, w1, w2, w3]
  cases h
  exact q_ret rfl at_.at_ rfl (res1 rfl rfl) ⟨rfl, rfl⟩
end
end valid_has
namespace valid_kinds
theorem at_ : FnAt Try.prog 32 Try.f32 := ⟨Try.func32, by kernel_rfl⟩
noncomputable def d0 := (Try.f32.body).getD .skip
noncomputable def r1 := kR (kA d0)
noncomputable def r3 := kR (kA (kB d0))
noncomputable def d5 := kA (kB (kB d0))
noncomputable def r6 := kR (kA d5)
noncomputable def d9 := kA (kA (kB d5))
noncomputable def r10 := kR (kA d9)
noncomputable def d16 := kA (kB (kB d9))
noncomputable def r18 := kR (kA (kA d16))
noncomputable def r20 := kR (kA (kB (kA d16)))
noncomputable def d21 := kB (kB (kA d16))
noncomputable def r22 := kR (kA d21)
noncomputable def r25 := kR (kA (kA (kB d21)))
noncomputable def r27 := kR (kA (kB (kA (kB d21))))
noncomputable def r31 := kR (kA (kA (kB (kB d21))))
noncomputable def r33 := kR (kA (kB (kA (kB (kB d21)))))
noncomputable def d35 := kB (kB (kB d21))
noncomputable def r37 := kR (kA (kA d35))
noncomputable def r39 := kR (kA (kB (kA d35)))
noncomputable def r43 := kR (kA (kA (kB d35)))
noncomputable def r45 := kR (kA (kB (kA (kB d35))))
noncomputable def r49 := kR (kA (kA (kB (kB d35))))
noncomputable def r51 := kR (kA (kB (kA (kB (kB d35)))))
noncomputable def d53 := kB (kB (kB d35))
noncomputable def r55 := kR (kA (kA d53))
noncomputable def r57 := kR (kA (kB (kA d53)))
noncomputable def r60 := kR (kA (kB d53))
noncomputable def r62 := kR (kA (kB (kB d53)))
noncomputable def r64 := kR (kB (kB (kB d9)))
noncomputable def r66 := kR (kA (kB (kB (kB d0))))
noncomputable def c65 : Code := .seq (.region 22 r66 false) .ret
noncomputable def c64 : Code := .region 21 r64 false
noncomputable def c59 : Code := .seq (.region 19 r60 false) (.cond (.tmp 86) (.region 20 r62 false) .skip)
noncomputable def c56 : Code := .cond (.tmp 78) (.region 18 r57 false) .skip
noncomputable def c53 : Code := .seq (.seq (.region 17 r55 false) c56) c59
noncomputable def c50 : Code := .cond (.tmp 68) (.region 16 r51 false) .skip
noncomputable def c47 : Code := .seq (.seq (.region 15 r49 false) c50) c53
noncomputable def c44 : Code := .cond (.tmp 54) (.region 14 r45 false) .skip
noncomputable def c41 : Code := .seq (.seq (.region 13 r43 false) c44) c47
noncomputable def c35 : Code := .seq (.seq (.region 11 r37 false) (.cond (.tmp 43) (.region 12 r39 false) .skip)) c41
noncomputable def c32 : Code := .cond (.tmp 35) (.region 10 r33 false) .skip
noncomputable def c29 : Code := .seq (.seq (.region 9 r31 false) c32) c35
noncomputable def c26 : Code := .cond (.tmp 25) (.region 8 r27 false) .skip
noncomputable def c23 : Code := .seq (.seq (.region 7 r25 false) c26) c29
noncomputable def c21 : Code := .seq (.region 6 r22 false) c23
noncomputable def c9 : Code := .seq (.region 3 r10 false) (.seq (.cond (.tmp 6) .skip (.exit 0)) (.seq (.block 1 (.seq (.region 4 r18 false) (.seq (.region 5 r20 false) c21))) c64))
noncomputable def c0 : Code := .seq (.region 0 r1 false) (.seq (.region 1 r3 false) (.seq (.seq (.region 2 r6 false) (.block 0 (.loop c9))) c65))
theorem body : Try.f32.body = some c0 := by kernel_rfl
section
variable {base : Nat} {W0 : World} {β0 : Bt}
def J15 (k : Nat) (rec0 : (Option HA) → (Option HA) → Int → HS → Option (((List HV)) × HS)) (y0 : (Option HA)) (y1 : (Option HA)) (y5 : Int) (S : HS) : Option (((List HV)) × HS) :=
  rec0 y0 y1 (w64 (y5 + 1)) S
theorem J15_snd {k : Nat} {rec0 : (Option HA) → (Option HA) → Int → HS → Option (((List HV)) × HS)} (hrec0 : ∀ ⦃y0 : (Option HA)⦄ ⦃y1 : (Option HA)⦄ ⦃y5 : Int⦄ ⦃S : HS⦄ ⦃p : ((List HV)) × HS⦄ ⦃g2 g3 g4 g6 g7 g8 g9 g10 g11 g12 g13 g14 g15 g16 g17 g18 g19 g20 g21 g22 g23 g24 g25 g26 g27 g28 g29 g30 g31 g32 g33 g34 g35 g36 g37 g38 g39 g40 g41 g42 g43 g44 g45 g46 g47 g48 g49 g50 g51 g52 g53 g54 g55 g56 g57 g58 g59 g60 g61 g62 g63 g64 g65 g66 g67 g68 g69 g70 g71 g72 g73 g74 g75 g76 g77 g78 g79 g80 g81 g82 g83 g84 g85 g86 g87 g88 g89 g90 g91 g92 g93 : HV⦄, rec0 y0 y1 y5 S = some p → HRun Try.prog base W0 β0 32 none [.inLoop c9, .inBlock 0, .code c65] ⟨[(.ptr y0), (.ptr y1), g2, g3, g4, (.int .i64 y5), g6, g7, g8, g9, g10, g11, g12, g13, g14, g15, g16, g17, g18, g19, g20, g21, g22, g23, g24, g25, g26, g27, g28, g29, g30, g31, g32, g33, g34, g35, g36, g37, g38, g39, g40, g41, g42, g43, g44, g45, g46, g47, g48, g49, g50, g51, g52, g53, g54, g55, g56, g57, g58, g59, g60, g61, g62, g63, g64, g65, g66, g67, g68, g69, g70, g71, g72, g73, g74, g75, g76, g77, g78, g79, g80, g81, g82, g83, g84, g85, g86, g87, g88, g89, g90, g91, g92, g93], []⟩ S (fun v S1 => v = (.agg p.1) ∧ S1 = p.2)) {y0 : (Option HA)} {y1 : (Option HA)} {y5 : Int} {S : HS} {p : ((List HV)) × HS} {g2 g3 g4 g6 g7 g8 g9 g10 g11 g12 g13 g14 g15 g16 g17 g18 g19 g20 g21 g22 g23 g24 g25 g26 g27 g28 g29 g30 g31 g32 g33 g34 g35 g36 g37 g38 g39 g40 g41 g42 g43 g44 g45 g46 g47 g48 g49 g50 g51 g52 g53 g54 g55 g56 g57 g58 g59 g60 g61 g62 g63 g64 g65 g66 g67 g68 g69 g70 g71 g72 g73 g74 g75 g76 g77 g78 g79 g80 g81 g82 g83 g84 g85 g86 g87 g88 g89 g90 g91 g92 g93 : HV} (h : J15 k rec0 y0 y1 y5 S = some p) : HRun Try.prog base W0 β0 32 none [.code c64, .inLoop c9, .inBlock 0, .code c65] ⟨[(.ptr y0), (.ptr y1), g2, g3, g4, (.int .i64 y5), g6, g7, g8, g9, g10, g11, g12, g13, g14, g15, g16, g17, g18, g19, g20, g21, g22, g23, g24, g25, g26, g27, g28, g29, g30, g31, g32, g33, g34, g35, g36, g37, g38, g39, g40, g41, g42, g43, g44, g45, g46, g47, g48, g49, g50, g51, g52, g53, g54, g55, g56, g57, g58, g59, g60, g61, g62, g63, g64, g65, g66, g67, g68, g69, g70, g71, g72, g73, g74, g75, g76, g77, g78, g79, g80, g81, g82, g83, g84, g85, g86, g87, g88, g89, g90, g91, g92, g93], []⟩ S (fun v S1 => v = (.agg p.1) ∧ S1 = p.2) := by
  unfold J15 at h
  refine q_region rfl rfl ?_
  refine qS 92 rfl (ok_ibin · (.tmp rfl) (.int _ _) rfl) ?_
  refine qS 5 rfl (ok_move · (.tmp rfl)) ?_
  refine hr_region_end ?_
  try dsimp only [w0, w1, w2, w3]
  try dsimp only [w0, w1, w2, w3]
  exact hrec0 h
def J14 (k : Nat) (rec0 : (Option HA) → (Option HA) → Int → HS → Option (((List HV)) × HS)) (y0 : (Option HA)) (y1 : (Option HA)) (y2 : Int) (y5 : Int) (S : HS) : Option (((List HV)) × HS) :=
  (Option.bind (valid_has.f ([0, 10, 13] : List UInt8) y2) fun p58 =>
  (if (!p58) = true then
  (Option.bind (y1) fun p60 =>
  (if 0 ≤ (y2 : Int) ∧ (y2 : Int) < 256 then
  (Option.bind (HS.ldI S .u16 (HA.fld p60 (Int.toNat y2))) fun p62 =>
  (Option.bind (y1) fun p63 =>
  (if 0 ≤ (y2 : Int) ∧ (y2 : Int) < 256 then
  (Option.bind (HS.sets S (HA.fld p63 (Int.toNat y2)) [(.int .u16 (ior .u16 p62 64))]) fun p65 =>
  J15 k rec0 y0 y1 y5 p65) else none))) else none)) else
  J15 k rec0 y0 y1 y5 S))
theorem J14_snd {k : Nat} {rec0 : (Option HA) → (Option HA) → Int → HS → Option (((List HV)) × HS)} (hrec0 : ∀ ⦃y0 : (Option HA)⦄ ⦃y1 : (Option HA)⦄ ⦃y5 : Int⦄ ⦃S : HS⦄ ⦃p : ((List HV)) × HS⦄ ⦃g2 g3 g4 g6 g7 g8 g9 g10 g11 g12 g13 g14 g15 g16 g17 g18 g19 g20 g21 g22 g23 g24 g25 g26 g27 g28 g29 g30 g31 g32 g33 g34 g35 g36 g37 g38 g39 g40 g41 g42 g43 g44 g45 g46 g47 g48 g49 g50 g51 g52 g53 g54 g55 g56 g57 g58 g59 g60 g61 g62 g63 g64 g65 g66 g67 g68 g69 g70 g71 g72 g73 g74 g75 g76 g77 g78 g79 g80 g81 g82 g83 g84 g85 g86 g87 g88 g89 g90 g91 g92 g93 : HV⦄, rec0 y0 y1 y5 S = some p → HRun Try.prog base W0 β0 32 none [.inLoop c9, .inBlock 0, .code c65] ⟨[(.ptr y0), (.ptr y1), g2, g3, g4, (.int .i64 y5), g6, g7, g8, g9, g10, g11, g12, g13, g14, g15, g16, g17, g18, g19, g20, g21, g22, g23, g24, g25, g26, g27, g28, g29, g30, g31, g32, g33, g34, g35, g36, g37, g38, g39, g40, g41, g42, g43, g44, g45, g46, g47, g48, g49, g50, g51, g52, g53, g54, g55, g56, g57, g58, g59, g60, g61, g62, g63, g64, g65, g66, g67, g68, g69, g70, g71, g72, g73, g74, g75, g76, g77, g78, g79, g80, g81, g82, g83, g84, g85, g86, g87, g88, g89, g90, g91, g92, g93], []⟩ S (fun v S1 => v = (.agg p.1) ∧ S1 = p.2)) {y0 : (Option HA)} {y1 : (Option HA)} {y2 : Int} {y5 : Int} {S : HS} {p : ((List HV)) × HS} {g3 g4 g6 g7 g8 g9 g10 g11 g12 g13 g14 g15 g16 g17 g18 g19 g20 g21 g22 g23 g24 g25 g26 g27 g28 g29 g30 g31 g32 g33 g34 g35 g36 g37 g38 g39 g40 g41 g42 g43 g44 g45 g46 g47 g48 g49 g50 g51 g52 g53 g54 g55 g56 g57 g58 g59 g60 g61 g62 g63 g64 g65 g66 g67 g68 g69 g70 g71 g72 g73 g74 g75 g76 g77 g78 g79 g80 g81 g82 g83 g84 g85 g86 g87 g88 g89 g90 g91 g92 g93 : HV} (h : J14 k rec0 y0 y1 y2 y5 S = some p) : HRun Try.prog base W0 β0 32 none [.code c59, .inBlock 1, .code c64, .inLoop c9, .inBlock 0, .code c65] ⟨[(.ptr y0), (.ptr y1), (.int .i64 y2), g3, g4, (.int .i64 y5), g6, g7, g8, g9, g10, g11, g12, g13, g14, g15, g16, g17, g18, g19, g20, g21, g22, g23, g24, g25, g26, g27, g28, g29, g30, g31, g32, g33, g34, g35, g36, g37, g38, g39, g40, g41, g42, g43, g44, g45, g46, g47, g48, g49, g50, g51, g52, g53, g54, g55, g56, g57, g58, g59, g60, g61, g62, g63, g64, g65, g66, g67, g68, g69, g70, g71, g72, g73, g74, g75, g76, g77, g78, g79, g80, g81, g82, g83, g84, g85, g86, g87, g88, g89, g90, g91, g92, g93], []⟩ S (fun v S1 => v = (.agg p.1) ∧ S1 = p.2) := by
  unfold J14 at h
  refine q_seq rfl ?_
  refine q_region rfl rfl ?_
  refine qS 84 rfl (ok_move · (.tmp rfl)) ?_
  obtain ⟨p58, hp58, h⟩ := bindo h
  refine q_call (dst := some 85) rfl (.func _) (.cons (.str _) (.cons (.tmp rfl) Evs.nil)) (HInv.static valid_has.at_ valid_has.body (valid_has.snd  hp58)) ?_
  rintro _ _ ⟨rfl, rfl⟩
  refine qS 86 rfl (ok_not · (.tmp rfl)) ?_
  refine hr_region_end ?_
  try dsimp only [w0, w1, w2, w3]
  rcases ifc h with ⟨hc59, h⟩ | ⟨hc59, h⟩
  · refine q_cond_t rfl (.tmp rfl) hc59 ?_
    refine q_region rfl rfl ?_
    refine qS 87 rfl (ok_move · (.tmp rfl)) ?_
    obtain ⟨p60, hp60, h⟩ := bindo h
    obtain ⟨hg61, h⟩ := gd h
    refine qS 88 rfl (ok_indexAddr_arr · ta61 sz59 (.tmp rfl) hp60 (.tmp rfl) hg61) ?_
    obtain ⟨p62, hp62, h⟩ := bindo h
    refine qS 89 rfl (ok_load_s · sc59 (.tmp rfl) rfl (ldI_out hp62)) ?_
    refine qS 90 rfl (ok_ibin · (.tmp rfl) (.int _ _) rfl) ?_
    try dsimp only [w0, w1, w2, w3]
    obtain ⟨p63, hp63, h⟩ := bindo h
    obtain ⟨hg64, h⟩ := gd h
    refine qS 91 rfl (ok_indexAddr_arr · ta61 sz59 (.tmp rfl) hp63 (.tmp rfl) hg64) ?_
    obtain ⟨p65, hp65, h⟩ := bindo h
    refine qN rfl (ok_store_s (v := (.int .u16 (ior .u16 p62 64))) · sz59 (.tmp rfl) rfl (.tmp rfl) rfl hp65) ?_
    refine hr_region_end ?_
    try dsimp only [w0, w1, w2, w3]
    refine hr_inBlock ?_
    try dsimp only [w0, w1, w2, w3]
    exact J15_snd hrec0 h
  · refine q_cond_f rfl (.tmp rfl) (bfalse hc59) ?_
    refine q_skipc rfl ?_
    refine hr_inBlock ?_
    try dsimp only [w0, w1, w2, w3]
    exact J15_snd hrec0 h
def J13 (k : Nat) (rec0 : (Option HA) → (Option HA) → Int → HS → Option (((List HV)) × HS)) (y0 : (Option HA)) (y1 : (Option HA)) (y2 : Int) (y5 : Int) (y78 : Bool) (S : HS) : Option (((List HV)) × HS) :=
  (if y78 = true then
  (Option.bind (y1) fun p52 =>
  (if 0 ≤ (y2 : Int) ∧ (y2 : Int) < 256 then
  (Option.bind (HS.ldI S .u16 (HA.fld p52 (Int.toNat y2))) fun p54 =>
  (Option.bind (y1) fun p55 =>
  (if 0 ≤ (y2 : Int) ∧ (y2 : Int) < 256 then
  (Option.bind (HS.sets S (HA.fld p55 (Int.toNat y2)) [(.int .u16 (ior .u16 p54 32))]) fun p57 =>
  J14 k rec0 y0 y1 y2 y5 p57) else none))) else none)) else
  J14 k rec0 y0 y1 y2 y5 S)
theorem J13_snd {k : Nat} {rec0 : (Option HA) → (Option HA) → Int → HS → Option (((List HV)) × HS)} (hrec0 : ∀ ⦃y0 : (Option HA)⦄ ⦃y1 : (Option HA)⦄ ⦃y5 : Int⦄ ⦃S : HS⦄ ⦃p : ((List HV)) × HS⦄ ⦃g2 g3 g4 g6 g7 g8 g9 g10 g11 g12 g13 g14 g15 g16 g17 g18 g19 g20 g21 g22 g23 g24 g25 g26 g27 g28 g29 g30 g31 g32 g33 g34 g35 g36 g37 g38 g39 g40 g41 g42 g43 g44 g45 g46 g47 g48 g49 g50 g51 g52 g53 g54 g55 g56 g57 g58 g59 g60 g61 g62 g63 g64 g65 g66 g67 g68 g69 g70 g71 g72 g73 g74 g75 g76 g77 g78 g79 g80 g81 g82 g83 g84 g85 g86 g87 g88 g89 g90 g91 g92 g93 : HV⦄, rec0 y0 y1 y5 S = some p → HRun Try.prog base W0 β0 32 none [.inLoop c9, .inBlock 0, .code c65] ⟨[(.ptr y0), (.ptr y1), g2, g3, g4, (.int .i64 y5), g6, g7, g8, g9, g10, g11, g12, g13, g14, g15, g16, g17, g18, g19, g20, g21, g22, g23, g24, g25, g26, g27, g28, g29, g30, g31, g32, g33, g34, g35, g36, g37, g38, g39, g40, g41, g42, g43, g44, g45, g46, g47, g48, g49, g50, g51, g52, g53, g54, g55, g56, g57, g58, g59, g60, g61, g62, g63, g64, g65, g66, g67, g68, g69, g70, g71, g72, g73, g74, g75, g76, g77, g78, g79, g80, g81, g82, g83, g84, g85, g86, g87, g88, g89, g90, g91, g92, g93], []⟩ S (fun v S1 => v = (.agg p.1) ∧ S1 = p.2)) {y0 : (Option HA)} {y1 : (Option HA)} {y2 : Int} {y5 : Int} {y78 : Bool} {S : HS} {p : ((List HV)) × HS} {g3 g4 g6 g7 g8 g9 g10 g11 g12 g13 g14 g15 g16 g17 g18 g19 g20 g21 g22 g23 g24 g25 g26 g27 g28 g29 g30 g31 g32 g33 g34 g35 g36 g37 g38 g39 g40 g41 g42 g43 g44 g45 g46 g47 g48 g49 g50 g51 g52 g53 g54 g55 g56 g57 g58 g59 g60 g61 g62 g63 g64 g65 g66 g67 g68 g69 g70 g71 g72 g73 g74 g75 g76 g77 g79 g80 g81 g82 g83 g84 g85 g86 g87 g88 g89 g90 g91 g92 g93 : HV} (h : J13 k rec0 y0 y1 y2 y5 y78 S = some p) : HRun Try.prog base W0 β0 32 none [.code c56, .code c59, .inBlock 1, .code c64, .inLoop c9, .inBlock 0, .code c65] ⟨[(.ptr y0), (.ptr y1), (.int .i64 y2), g3, g4, (.int .i64 y5), g6, g7, g8, g9, g10, g11, g12, g13, g14, g15, g16, g17, g18, g19, g20, g21, g22, g23, g24, g25, g26, g27, g28, g29, g30, g31, g32, g33, g34, g35, g36, g37, g38, g39, g40, g41, g42, g43, g44, g45, g46, g47, g48, g49, g50, g51, g52, g53, g54, g55, g56, g57, g58, g59, g60, g61, g62, g63, g64, g65, g66, g67, g68, g69, g70, g71, g72, g73, g74, g75, g76, g77, (.bool y78), g79, g80, g81, g82, g83, g84, g85, g86, g87, g88, g89, g90, g91, g92, g93], []⟩ S (fun v S1 => v = (.agg p.1) ∧ S1 = p.2) := by
  unfold J13 at h
  rcases ifc h with ⟨hc51, h⟩ | ⟨hc51, h⟩
  · refine q_cond_t rfl (.tmp rfl) hc51 ?_
    refine q_region rfl rfl ?_
    refine qS 79 rfl (ok_move · (.tmp rfl)) ?_
    obtain ⟨p52, hp52, h⟩ := bindo h
    obtain ⟨hg53, h⟩ := gd h
    refine qS 80 rfl (ok_indexAddr_arr · ta61 sz59 (.tmp rfl) hp52 (.tmp rfl) hg53) ?_
    obtain ⟨p54, hp54, h⟩ := bindo h
    refine qS 81 rfl (ok_load_s · sc59 (.tmp rfl) rfl (ldI_out hp54)) ?_
    refine qS 82 rfl (ok_ibin · (.tmp rfl) (.int _ _) rfl) ?_
    try dsimp only [w0, w1, w2, w3]
    obtain ⟨p55, hp55, h⟩ := bindo h
    obtain ⟨hg56, h⟩ := gd h
    refine qS 83 rfl (ok_indexAddr_arr · ta61 sz59 (.tmp rfl) hp55 (.tmp rfl) hg56) ?_
    obtain ⟨p57, hp57, h⟩ := bindo h
    refine qN rfl (ok_store_s (v := (.int .u16 (ior .u16 p54 32))) · sz59 (.tmp rfl) rfl (.tmp rfl) rfl hp57) ?_
    refine hr_region_end ?_
    try dsimp only [w0, w1, w2, w3]
    try dsimp only [w0, w1, w2, w3]
    exact J14_snd hrec0 h
  · refine q_cond_f rfl (.tmp rfl) (bfalse hc51) ?_
    refine q_skipc rfl ?_
    try dsimp only [w0, w1, w2, w3]
    exact J14_snd hrec0 h
def J12 (k : Nat) (rec0 : (Option HA) → (Option HA) → Int → HS → Option (((List HV)) × HS)) (y0 : (Option HA)) (y1 : (Option HA)) (y2 : Int) (y4 : Bool) (y5 : Int) (S : HS) : Option (((List HV)) × HS) :=
  (if y4 = true then
  J13 k rec0 y0 y1 y2 y5 (!decide (y2 = 44)) S else
  J13 k rec0 y0 y1 y2 y5 false S)
theorem J12_snd {k : Nat} {rec0 : (Option HA) → (Option HA) → Int → HS → Option (((List HV)) × HS)} (hrec0 : ∀ ⦃y0 : (Option HA)⦄ ⦃y1 : (Option HA)⦄ ⦃y5 : Int⦄ ⦃S : HS⦄ ⦃p : ((List HV)) × HS⦄ ⦃g2 g3 g4 g6 g7 g8 g9 g10 g11 g12 g13 g14 g15 g16 g17 g18 g19 g20 g21 g22 g23 g24 g25 g26 g27 g28 g29 g30 g31 g32 g33 g34 g35 g36 g37 g38 g39 g40 g41 g42 g43 g44 g45 g46 g47 g48 g49 g50 g51 g52 g53 g54 g55 g56 g57 g58 g59 g60 g61 g62 g63 g64 g65 g66 g67 g68 g69 g70 g71 g72 g73 g74 g75 g76 g77 g78 g79 g80 g81 g82 g83 g84 g85 g86 g87 g88 g89 g90 g91 g92 g93 : HV⦄, rec0 y0 y1 y5 S = some p → HRun Try.prog base W0 β0 32 none [.inLoop c9, .inBlock 0, .code c65] ⟨[(.ptr y0), (.ptr y1), g2, g3, g4, (.int .i64 y5), g6, g7, g8, g9, g10, g11, g12, g13, g14, g15, g16, g17, g18, g19, g20, g21, g22, g23, g24, g25, g26, g27, g28, g29, g30, g31, g32, g33, g34, g35, g36, g37, g38, g39, g40, g41, g42, g43, g44, g45, g46, g47, g48, g49, g50, g51, g52, g53, g54, g55, g56, g57, g58, g59, g60, g61, g62, g63, g64, g65, g66, g67, g68, g69, g70, g71, g72, g73, g74, g75, g76, g77, g78, g79, g80, g81, g82, g83, g84, g85, g86, g87, g88, g89, g90, g91, g92, g93], []⟩ S (fun v S1 => v = (.agg p.1) ∧ S1 = p.2)) {y0 : (Option HA)} {y1 : (Option HA)} {y2 : Int} {y4 : Bool} {y5 : Int} {S : HS} {p : ((List HV)) × HS} {g3 g6 g7 g8 g9 g10 g11 g12 g13 g14 g15 g16 g17 g18 g19 g20 g21 g22 g23 g24 g25 g26 g27 g28 g29 g30 g31 g32 g33 g34 g35 g36 g37 g38 g39 g40 g41 g42 g43 g44 g45 g46 g47 g48 g49 g50 g51 g52 g53 g54 g55 g56 g57 g58 g59 g60 g61 g62 g63 g64 g65 g66 g67 g68 g69 g70 g71 g72 g73 g74 g75 g76 g77 g78 g79 g80 g81 g82 g83 g84 g85 g86 g87 g88 g89 g90 g91 g92 g93 : HV} (h : J12 k rec0 y0 y1 y2 y4 y5 S = some p) : HRun Try.prog base W0 β0 32 none [.code c53, .inBlock 1, .code c64, .inLoop c9, .inBlock 0, .code c65] ⟨[(.ptr y0), (.ptr y1), (.int .i64 y2), g3, (.bool y4), (.int .i64 y5), g6, g7, g8, g9, g10, g11, g12, g13, g14, g15, g16, g17, g18, g19, g20, g21, g22, g23, g24, g25, g26, g27, g28, g29, g30, g31, g32, g33, g34, g35, g36, g37, g38, g39, g40, g41, g42, g43, g44, g45, g46, g47, g48, g49, g50, g51, g52, g53, g54, g55, g56, g57, g58, g59, g60, g61, g62, g63, g64, g65, g66, g67, g68, g69, g70, g71, g72, g73, g74, g75, g76, g77, g78, g79, g80, g81, g82, g83, g84, g85, g86, g87, g88, g89, g90, g91, g92, g93], []⟩ S (fun v S1 => v = (.agg p.1) ∧ S1 = p.2) := by
  unfold J12 at h
  refine q_seq rfl ?_
  refine q_seq rfl ?_
  refine q_region rfl rfl ?_
  refine qS 74 rfl (ok_move · (.tmp rfl)) ?_
  refine qS 75 rfl (ok_move · (.tmp rfl)) ?_
  rcases ifc h with ⟨hc50, h⟩ | ⟨hc50, h⟩
  · refine qG 75 76 rfl hc50 (ok_move · (.tmp rfl)) ?_
    refine qG 75 77 rfl hc50 (ok_ibin · (.tmp rfl) (.int _ _) rfl) ?_
    try dsimp only [w0, w1, w2, w3]
    refine qS 78 rfl (ok_pick_tt · (.tmp rfl) hc50 (.tmp rfl)) ?_
    refine hr_region_end ?_
    try dsimp only [w0, w1, w2, w3]
    try dsimp only [w0, w1, w2, w3]
    exact J13_snd hrec0 h
  · refine q_skip (dst := some 76) (t := 75) rfl rfl rfl (bfalse hc50) ?_
    refine q_skip (dst := some 77) (t := 75) rfl rfl rfl (bfalse hc50) ?_
    try dsimp only [w0, w1, w2, w3]
    refine qS 78 rfl (ok_pick_ff · (.tmp rfl) (bfalse hc50) (.bool _)) ?_
    refine hr_region_end ?_
    try dsimp only [w0, w1, w2, w3]
    try dsimp only [w0, w1, w2, w3]
    exact J13_snd hrec0 h
def J11 (k : Nat) (rec0 : (Option HA) → (Option HA) → Int → HS → Option (((List HV)) × HS)) (y0 : (Option HA)) (y1 : (Option HA)) (y2 : Int) (y4 : Bool) (y5 : Int) (y68 : Bool) (S : HS) : Option (((List HV)) × HS) :=
  (if y68 = true then
  (Option.bind (y1) fun p44 =>
  (if 0 ≤ (y2 : Int) ∧ (y2 : Int) < 256 then
  (Option.bind (HS.ldI S .u16 (HA.fld p44 (Int.toNat y2))) fun p46 =>
  (Option.bind (y1) fun p47 =>
  (if 0 ≤ (y2 : Int) ∧ (y2 : Int) < 256 then
  (Option.bind (HS.sets S (HA.fld p47 (Int.toNat y2)) [(.int .u16 (ior .u16 p46 16))]) fun p49 =>
  J12 k rec0 y0 y1 y2 y4 y5 p49) else none))) else none)) else
  J12 k rec0 y0 y1 y2 y4 y5 S)
theorem J11_snd {k : Nat} {rec0 : (Option HA) → (Option HA) → Int → HS → Option (((List HV)) × HS)} (hrec0 : ∀ ⦃y0 : (Option HA)⦄ ⦃y1 : (Option HA)⦄ ⦃y5 : Int⦄ ⦃S : HS⦄ ⦃p : ((List HV)) × HS⦄ ⦃g2 g3 g4 g6 g7 g8 g9 g10 g11 g12 g13 g14 g15 g16 g17 g18 g19 g20 g21 g22 g23 g24 g25 g26 g27 g28 g29 g30 g31 g32 g33 g34 g35 g36 g37 g38 g39 g40 g41 g42 g43 g44 g45 g46 g47 g48 g49 g50 g51 g52 g53 g54 g55 g56 g57 g58 g59 g60 g61 g62 g63 g64 g65 g66 g67 g68 g69 g70 g71 g72 g73 g74 g75 g76 g77 g78 g79 g80 g81 g82 g83 g84 g85 g86 g87 g88 g89 g90 g91 g92 g93 : HV⦄, rec0 y0 y1 y5 S = some p → HRun Try.prog base W0 β0 32 none [.inLoop c9, .inBlock 0, .code c65] ⟨[(.ptr y0), (.ptr y1), g2, g3, g4, (.int .i64 y5), g6, g7, g8, g9, g10, g11, g12, g13, g14, g15, g16, g17, g18, g19, g20, g21, g22, g23, g24, g25, g26, g27, g28, g29, g30, g31, g32, g33, g34, g35, g36, g37, g38, g39, g40, g41, g42, g43, g44, g45, g46, g47, g48, g49, g50, g51, g52, g53, g54, g55, g56, g57, g58, g59, g60, g61, g62, g63, g64, g65, g66, g67, g68, g69, g70, g71, g72, g73, g74, g75, g76, g77, g78, g79, g80, g81, g82, g83, g84, g85, g86, g87, g88, g89, g90, g91, g92, g93], []⟩ S (fun v S1 => v = (.agg p.1) ∧ S1 = p.2)) {y0 : (Option HA)} {y1 : (Option HA)} {y2 : Int} {y4 : Bool} {y5 : Int} {y68 : Bool} {S : HS} {p : ((List HV)) × HS} {g3 g6 g7 g8 g9 g10 g11 g12 g13 g14 g15 g16 g17 g18 g19 g20 g21 g22 g23 g24 g25 g26 g27 g28 g29 g30 g31 g32 g33 g34 g35 g36 g37 g38 g39 g40 g41 g42 g43 g44 g45 g46 g47 g48 g49 g50 g51 g52 g53 g54 g55 g56 g57 g58 g59 g60 g61 g62 g63 g64 g65 g66 g67 g69 g70 g71 g72 g73 g74 g75 g76 g77 g78 g79 g80 g81 g82 g83 g84 g85 g86 g87 g88 g89 g90 g91 g92 g93 : HV} (h : J11 k rec0 y0 y1 y2 y4 y5 y68 S = some p) : HRun Try.prog base W0 β0 32 none [.code c50, .code c53, .inBlock 1, .code c64, .inLoop c9, .inBlock 0, .code c65] ⟨[(.ptr y0), (.ptr y1), (.int .i64 y2), g3, (.bool y4), (.int .i64 y5), g6, g7, g8, g9, g10, g11, g12, g13, g14, g15, g16, g17, g18, g19, g20, g21, g22, g23, g24, g25, g26, g27, g28, g29, g30, g31, g32, g33, g34, g35, g36, g37, g38, g39, g40, g41, g42, g43, g44, g45, g46, g47, g48, g49, g50, g51, g52, g53, g54, g55, g56, g57, g58, g59, g60, g61, g62, g63, g64, g65, g66, g67, (.bool y68), g69, g70, g71, g72, g73, g74, g75, g76, g77, g78, g79, g80, g81, g82, g83, g84, g85, g86, g87, g88, g89, g90, g91, g92, g93], []⟩ S (fun v S1 => v = (.agg p.1) ∧ S1 = p.2) := by
  unfold J11 at h
  rcases ifc h with ⟨hc43, h⟩ | ⟨hc43, h⟩
  · refine q_cond_t rfl (.tmp rfl) hc43 ?_
    refine q_region rfl rfl ?_
    refine qS 69 rfl (ok_move · (.tmp rfl)) ?_
    obtain ⟨p44, hp44, h⟩ := bindo h
    obtain ⟨hg45, h⟩ := gd h
    refine qS 70 rfl (ok_indexAddr_arr · ta61 sz59 (.tmp rfl) hp44 (.tmp rfl) hg45) ?_
    obtain ⟨p46, hp46, h⟩ := bindo h
    refine qS 71 rfl (ok_load_s · sc59 (.tmp rfl) rfl (ldI_out hp46)) ?_
    refine qS 72 rfl (ok_ibin · (.tmp rfl) (.int _ _) rfl) ?_
    try dsimp only [w0, w1, w2, w3]
    obtain ⟨p47, hp47, h⟩ := bindo h
    obtain ⟨hg48, h⟩ := gd h
    refine qS 73 rfl (ok_indexAddr_arr · ta61 sz59 (.tmp rfl) hp47 (.tmp rfl) hg48) ?_
    obtain ⟨p49, hp49, h⟩ := bindo h
    refine qN rfl (ok_store_s (v := (.int .u16 (ior .u16 p46 16))) · sz59 (.tmp rfl) rfl (.tmp rfl) rfl hp49) ?_
    refine hr_region_end ?_
    try dsimp only [w0, w1, w2, w3]
    try dsimp only [w0, w1, w2, w3]
    exact J12_snd hrec0 h
  · refine q_cond_f rfl (.tmp rfl) (bfalse hc43) ?_
    refine q_skipc rfl ?_
    try dsimp only [w0, w1, w2, w3]
    exact J12_snd hrec0 h
def J10 (k : Nat) (rec0 : (Option HA) → (Option HA) → Int → HS → Option (((List HV)) × HS)) (y0 : (Option HA)) (y1 : (Option HA)) (y2 : Int) (y4 : Bool) (y5 : Int) (y64 : Bool) (S : HS) : Option (((List HV)) × HS) :=
  (if y64 = true then
  J11 k rec0 y0 y1 y2 y4 y5 true S else
  (Option.bind (valid_has.f ([46, 45, 58] : List UInt8) y2) fun p66 =>
  J11 k rec0 y0 y1 y2 y4 y5 p66 S))
theorem J10_snd {k : Nat} {rec0 : (Option HA) → (Option HA) → Int → HS → Option (((List HV)) × HS)} (hrec0 : ∀ ⦃y0 : (Option HA)⦄ ⦃y1 : (Option HA)⦄ ⦃y5 : Int⦄ ⦃S : HS⦄ ⦃p : ((List HV)) × HS⦄ ⦃g2 g3 g4 g6 g7 g8 g9 g10 g11 g12 g13 g14 g15 g16 g17 g18 g19 g20 g21 g22 g23 g24 g25 g26 g27 g28 g29 g30 g31 g32 g33 g34 g35 g36 g37 g38 g39 g40 g41 g42 g43 g44 g45 g46 g47 g48 g49 g50 g51 g52 g53 g54 g55 g56 g57 g58 g59 g60 g61 g62 g63 g64 g65 g66 g67 g68 g69 g70 g71 g72 g73 g74 g75 g76 g77 g78 g79 g80 g81 g82 g83 g84 g85 g86 g87 g88 g89 g90 g91 g92 g93 : HV⦄, rec0 y0 y1 y5 S = some p → HRun Try.prog base W0 β0 32 none [.inLoop c9, .inBlock 0, .code c65] ⟨[(.ptr y0), (.ptr y1), g2, g3, g4, (.int .i64 y5), g6, g7, g8, g9, g10, g11, g12, g13, g14, g15, g16, g17, g18, g19, g20, g21, g22, g23, g24, g25, g26, g27, g28, g29, g30, g31, g32, g33, g34, g35, g36, g37, g38, g39, g40, g41, g42, g43, g44, g45, g46, g47, g48, g49, g50, g51, g52, g53, g54, g55, g56, g57, g58, g59, g60, g61, g62, g63, g64, g65, g66, g67, g68, g69, g70, g71, g72, g73, g74, g75, g76, g77, g78, g79, g80, g81, g82, g83, g84, g85, g86, g87, g88, g89, g90, g91, g92, g93], []⟩ S (fun v S1 => v = (.agg p.1) ∧ S1 = p.2)) {y0 : (Option HA)} {y1 : (Option HA)} {y2 : Int} {y4 : Bool} {y5 : Int} {y64 : Bool} {S : HS} {p : ((List HV)) × HS} {g3 g6 g7 g8 g9 g10 g11 g12 g13 g14 g15 g16 g17 g18 g19 g20 g21 g22 g23 g24 g25 g26 g27 g28 g29 g30 g31 g32 g33 g34 g35 g36 g37 g38 g39 g40 g41 g42 g43 g44 g45 g46 g47 g48 g49 g50 g51 g52 g53 g54 g55 g56 g57 g58 g59 g60 g61 g62 g63 g65 g66 g67 g68 g69 g70 g71 g72 g73 g74 g75 g76 g77 g78 g79 g80 g81 g82 g83 g84 g85 g86 g87 g88 g89 g90 g91 g92 g93 : HV} (h : J10 k rec0 y0 y1 y2 y4 y5 y64 S = some p) : HRun Try.prog base W0 β0 32 none [.inRegion r49 [5, 6, 7, 8], .code c50, .code c53, .inBlock 1, .code c64, .inLoop c9, .inBlock 0, .code c65] ⟨[(.ptr y0), (.ptr y1), (.int .i64 y2), g3, (.bool y4), (.int .i64 y5), g6, g7, g8, g9, g10, g11, g12, g13, g14, g15, g16, g17, g18, g19, g20, g21, g22, g23, g24, g25, g26, g27, g28, g29, g30, g31, g32, g33, g34, g35, g36, g37, g38, g39, g40, g41, g42, g43, g44, g45, g46, g47, g48, g49, g50, g51, g52, g53, g54, g55, g56, g57, g58, g59, g60, g61, g62, g63, (.bool y64), g65, g66, g67, g68, g69, g70, g71, g72, g73, g74, g75, g76, g77, g78, g79, g80, g81, g82, g83, g84, g85, g86, g87, g88, g89, g90, g91, g92, g93], []⟩ S (fun v S1 => v = (.agg p.1) ∧ S1 = p.2) := by
  unfold J10 at h
  refine qS 65 rfl (ok_move · (.tmp rfl)) ?_
  rcases ifc h with ⟨hc42, h⟩ | ⟨hc42, h⟩
  · refine q_skip (dst := some 66) (t := 65) rfl rfl rfl hc42 ?_
    refine q_skip (dst := some 67) (t := 65) rfl rfl rfl hc42 ?_
    try dsimp only [w0, w1, w2, w3]
    refine qS 68 rfl (ok_pick_tt · (.tmp rfl) hc42 (.bool _)) ?_
    refine hr_region_end ?_
    try dsimp only [w0, w1, w2, w3]
    try dsimp only [w0, w1, w2, w3]
    exact J11_snd hrec0 h
  · refine qG 65 66 rfl (bfalse hc42) (ok_move · (.tmp rfl)) ?_
    obtain ⟨p66, hp66, h⟩ := bindo h
    refine q_call_g (t := 65) (dst := some 67) rfl rfl rfl (bfalse hc42) (.func _) (.cons (.str _) (.cons (.tmp rfl) Evs.nil)) (HInv.static valid_has.at_ valid_has.body (valid_has.snd  hp66)) ?_
    rintro _ _ ⟨rfl, rfl⟩
    try dsimp only [w0, w1, w2, w3]
    refine qS 68 rfl (ok_pick_ff · (.tmp rfl) (bfalse hc42) (.tmp rfl)) ?_
    refine hr_region_end ?_
    try dsimp only [w0, w1, w2, w3]
    try dsimp only [w0, w1, w2, w3]
    exact J11_snd hrec0 h
def J9 (k : Nat) (rec0 : (Option HA) → (Option HA) → Int → HS → Option (((List HV)) × HS)) (y0 : (Option HA)) (y1 : (Option HA)) (y2 : Int) (y3 : Bool) (y4 : Bool) (y5 : Int) (S : HS) : Option (((List HV)) × HS) :=
  (Option.bind (valid_letter.f y2) fun p40 =>
  (if p40 = true then
  J10 k rec0 y0 y1 y2 y4 y5 true S else
  J10 k rec0 y0 y1 y2 y4 y5 y3 S))
theorem J9_snd {k : Nat} {rec0 : (Option HA) → (Option HA) → Int → HS → Option (((List HV)) × HS)} (hrec0 : ∀ ⦃y0 : (Option HA)⦄ ⦃y1 : (Option HA)⦄ ⦃y5 : Int⦄ ⦃S : HS⦄ ⦃p : ((List HV)) × HS⦄ ⦃g2 g3 g4 g6 g7 g8 g9 g10 g11 g12 g13 g14 g15 g16 g17 g18 g19 g20 g21 g22 g23 g24 g25 g26 g27 g28 g29 g30 g31 g32 g33 g34 g35 g36 g37 g38 g39 g40 g41 g42 g43 g44 g45 g46 g47 g48 g49 g50 g51 g52 g53 g54 g55 g56 g57 g58 g59 g60 g61 g62 g63 g64 g65 g66 g67 g68 g69 g70 g71 g72 g73 g74 g75 g76 g77 g78 g79 g80 g81 g82 g83 g84 g85 g86 g87 g88 g89 g90 g91 g92 g93 : HV⦄, rec0 y0 y1 y5 S = some p → HRun Try.prog base W0 β0 32 none [.inLoop c9, .inBlock 0, .code c65] ⟨[(.ptr y0), (.ptr y1), g2, g3, g4, (.int .i64 y5), g6, g7, g8, g9, g10, g11, g12, g13, g14, g15, g16, g17, g18, g19, g20, g21, g22, g23, g24, g25, g26, g27, g28, g29, g30, g31, g32, g33, g34, g35, g36, g37, g38, g39, g40, g41, g42, g43, g44, g45, g46, g47, g48, g49, g50, g51, g52, g53, g54, g55, g56, g57, g58, g59, g60, g61, g62, g63, g64, g65, g66, g67, g68, g69, g70, g71, g72, g73, g74, g75, g76, g77, g78, g79, g80, g81, g82, g83, g84, g85, g86, g87, g88, g89, g90, g91, g92, g93], []⟩ S (fun v S1 => v = (.agg p.1) ∧ S1 = p.2)) {y0 : (Option HA)} {y1 : (Option HA)} {y2 : Int} {y3 : Bool} {y4 : Bool} {y5 : Int} {S : HS} {p : ((List HV)) × HS} {g6 g7 g8 g9 g10 g11 g12 g13 g14 g15 g16 g17 g18 g19 g20 g21 g22 g23 g24 g25 g26 g27 g28 g29 g30 g31 g32 g33 g34 g35 g36 g37 g38 g39 g40 g41 g42 g43 g44 g45 g46 g47 g48 g49 g50 g51 g52 g53 g54 g55 g56 g57 g58 g59 g60 g61 g62 g63 g64 g65 g66 g67 g68 g69 g70 g71 g72 g73 g74 g75 g76 g77 g78 g79 g80 g81 g82 g83 g84 g85 g86 g87 g88 g89 g90 g91 g92 g93 : HV} (h : J9 k rec0 y0 y1 y2 y3 y4 y5 S = some p) : HRun Try.prog base W0 β0 32 none [.code c47, .inBlock 1, .code c64, .inLoop c9, .inBlock 0, .code c65] ⟨[(.ptr y0), (.ptr y1), (.int .i64 y2), (.bool y3), (.bool y4), (.int .i64 y5), g6, g7, g8, g9, g10, g11, g12, g13, g14, g15, g16, g17, g18, g19, g20, g21, g22, g23, g24, g25, g26, g27, g28, g29, g30, g31, g32, g33, g34, g35, g36, g37, g38, g39, g40, g41, g42, g43, g44, g45, g46, g47, g48, g49, g50, g51, g52, g53, g54, g55, g56, g57, g58, g59, g60, g61, g62, g63, g64, g65, g66, g67, g68, g69, g70, g71, g72, g73, g74, g75, g76, g77, g78, g79, g80, g81, g82, g83, g84, g85, g86, g87, g88, g89, g90, g91, g92, g93], []⟩ S (fun v S1 => v = (.agg p.1) ∧ S1 = p.2) := by
  unfold J9 at h
  refine q_seq rfl ?_
  refine q_seq rfl ?_
  refine q_region rfl rfl ?_
  refine qS 60 rfl (ok_move · (.tmp rfl)) ?_
  obtain ⟨p40, hp40, h⟩ := bindo h
  refine q_call (dst := some 61) rfl (.func _) (.cons (.tmp rfl) Evs.nil) (HInv.static valid_letter.at_ valid_letter.body (valid_letter.snd  hp40)) ?_
  rintro _ _ ⟨rfl, rfl⟩
  refine qS 62 rfl (ok_move · (.tmp rfl)) ?_
  rcases ifc h with ⟨hc41, h⟩ | ⟨hc41, h⟩
  · refine q_skip (dst := some 63) (t := 62) rfl rfl rfl hc41 ?_
    try dsimp only [w0, w1, w2, w3]
    refine qS 64 rfl (ok_pick_tt · (.tmp rfl) hc41 (.bool _)) ?_
    try dsimp only [w0, w1, w2, w3]
    exact J10_snd hrec0 h
  · refine qG 62 63 rfl (bfalse hc41) (ok_move · (.tmp rfl)) ?_
    try dsimp only [w0, w1, w2, w3]
    refine qS 64 rfl (ok_pick_ff · (.tmp rfl) (bfalse hc41) (.tmp rfl)) ?_
    try dsimp only [w0, w1, w2, w3]
    exact J10_snd hrec0 h
def J8 (k : Nat) (rec0 : (Option HA) → (Option HA) → Int → HS → Option (((List HV)) × HS)) (y0 : (Option HA)) (y1 : (Option HA)) (y2 : Int) (y3 : Bool) (y4 : Bool) (y5 : Int) (y54 : Bool) (S : HS) : Option (((List HV)) × HS) :=
  (if y54 = true then
  (Option.bind (y1) fun p34 =>
  (if 0 ≤ (y2 : Int) ∧ (y2 : Int) < 256 then
  (Option.bind (HS.ldI S .u16 (HA.fld p34 (Int.toNat y2))) fun p36 =>
  (Option.bind (y1) fun p37 =>
  (if 0 ≤ (y2 : Int) ∧ (y2 : Int) < 256 then
  (Option.bind (HS.sets S (HA.fld p37 (Int.toNat y2)) [(.int .u16 (ior .u16 p36 8))]) fun p39 =>
  J9 k rec0 y0 y1 y2 y3 y4 y5 p39) else none))) else none)) else
  J9 k rec0 y0 y1 y2 y3 y4 y5 S)
theorem J8_snd {k : Nat} {rec0 : (Option HA) → (Option HA) → Int → HS → Option (((List HV)) × HS)} (hrec0 : ∀ ⦃y0 : (Option HA)⦄ ⦃y1 : (Option HA)⦄ ⦃y5 : Int⦄ ⦃S : HS⦄ ⦃p : ((List HV)) × HS⦄ ⦃g2 g3 g4 g6 g7 g8 g9 g10 g11 g12 g13 g14 g15 g16 g17 g18 g19 g20 g21 g22 g23 g24 g25 g26 g27 g28 g29 g30 g31 g32 g33 g34 g35 g36 g37 g38 g39 g40 g41 g42 g43 g44 g45 g46 g47 g48 g49 g50 g51 g52 g53 g54 g55 g56 g57 g58 g59 g60 g61 g62 g63 g64 g65 g66 g67 g68 g69 g70 g71 g72 g73 g74 g75 g76 g77 g78 g79 g80 g81 g82 g83 g84 g85 g86 g87 g88 g89 g90 g91 g92 g93 : HV⦄, rec0 y0 y1 y5 S = some p → HRun Try.prog base W0 β0 32 none [.inLoop c9, .inBlock 0, .code c65] ⟨[(.ptr y0), (.ptr y1), g2, g3, g4, (.int .i64 y5), g6, g7, g8, g9, g10, g11, g12, g13, g14, g15, g16, g17, g18, g19, g20, g21, g22, g23, g24, g25, g26, g27, g28, g29, g30, g31, g32, g33, g34, g35, g36, g37, g38, g39, g40, g41, g42, g43, g44, g45, g46, g47, g48, g49, g50, g51, g52, g53, g54, g55, g56, g57, g58, g59, g60, g61, g62, g63, g64, g65, g66, g67, g68, g69, g70, g71, g72, g73, g74, g75, g76, g77, g78, g79, g80, g81, g82, g83, g84, g85, g86, g87, g88, g89, g90, g91, g92, g93], []⟩ S (fun v S1 => v = (.agg p.1) ∧ S1 = p.2)) {y0 : (Option HA)} {y1 : (Option HA)} {y2 : Int} {y3 : Bool} {y4 : Bool} {y5 : Int} {y54 : Bool} {S : HS} {p : ((List HV)) × HS} {g6 g7 g8 g9 g10 g11 g12 g13 g14 g15 g16 g17 g18 g19 g20 g21 g22 g23 g24 g25 g26 g27 g28 g29 g30 g31 g32 g33 g34 g35 g36 g37 g38 g39 g40 g41 g42 g43 g44 g45 g46 g47 g48 g49 g50 g51 g52 g53 g55 g56 g57 g58 g59 g60 g61 g62 g63 g64 g65 g66 g67 g68 g69 g70 g71 g72 g73 g74 g75 g76 g77 g78 g79 g80 g81 g82 g83 g84 g85 g86 g87 g88 g89 g90 g91 g92 g93 : HV} (h : J8 k rec0 y0 y1 y2 y3 y4 y5 y54 S = some p) : HRun Try.prog base W0 β0 32 none [.code c44, .code c47, .inBlock 1, .code c64, .inLoop c9, .inBlock 0, .code c65] ⟨[(.ptr y0), (.ptr y1), (.int .i64 y2), (.bool y3), (.bool y4), (.int .i64 y5), g6, g7, g8, g9, g10, g11, g12, g13, g14, g15, g16, g17, g18, g19, g20, g21, g22, g23, g24, g25, g26, g27, g28, g29, g30, g31, g32, g33, g34, g35, g36, g37, g38, g39, g40, g41, g42, g43, g44, g45, g46, g47, g48, g49, g50, g51, g52, g53, (.bool y54), g55, g56, g57, g58, g59, g60, g61, g62, g63, g64, g65, g66, g67, g68, g69, g70, g71, g72, g73, g74, g75, g76, g77, g78, g79, g80, g81, g82, g83, g84, g85, g86, g87, g88, g89, g90, g91, g92, g93], []⟩ S (fun v S1 => v = (.agg p.1) ∧ S1 = p.2) := by
  unfold J8 at h
  rcases ifc h with ⟨hc33, h⟩ | ⟨hc33, h⟩
  · refine q_cond_t rfl (.tmp rfl) hc33 ?_
    refine q_region rfl rfl ?_
    refine qS 55 rfl (ok_move · (.tmp rfl)) ?_
    obtain ⟨p34, hp34, h⟩ := bindo h
    obtain ⟨hg35, h⟩ := gd h
    refine qS 56 rfl (ok_indexAddr_arr · ta61 sz59 (.tmp rfl) hp34 (.tmp rfl) hg35) ?_
    obtain ⟨p36, hp36, h⟩ := bindo h
    refine qS 57 rfl (ok_load_s · sc59 (.tmp rfl) rfl (ldI_out hp36)) ?_
    refine qS 58 rfl (ok_ibin · (.tmp rfl) (.int _ _) rfl) ?_
    try dsimp only [w0, w1, w2, w3]
    obtain ⟨p37, hp37, h⟩ := bindo h
    obtain ⟨hg38, h⟩ := gd h
    refine qS 59 rfl (ok_indexAddr_arr · ta61 sz59 (.tmp rfl) hp37 (.tmp rfl) hg38) ?_
    obtain ⟨p39, hp39, h⟩ := bindo h
    refine qN rfl (ok_store_s (v := (.int .u16 (ior .u16 p36 8))) · sz59 (.tmp rfl) rfl (.tmp rfl) rfl hp39) ?_
    refine hr_region_end ?_
    try dsimp only [w0, w1, w2, w3]
    try dsimp only [w0, w1, w2, w3]
    exact J9_snd hrec0 h
  · refine q_cond_f rfl (.tmp rfl) (bfalse hc33) ?_
    refine q_skipc rfl ?_
    try dsimp only [w0, w1, w2, w3]
    exact J9_snd hrec0 h
def J7 (k : Nat) (rec0 : (Option HA) → (Option HA) → Int → HS → Option (((List HV)) × HS)) (y0 : (Option HA)) (y1 : (Option HA)) (y2 : Int) (y3 : Bool) (y4 : Bool) (y5 : Int) (S : HS) : Option (((List HV)) × HS) :=
  (if y4 = true then
  (Option.bind (valid_has.f ([33, 64, 42, 63, 58] : List UInt8) y2) fun p32 =>
  J8 k rec0 y0 y1 y2 y3 y4 y5 (!p32) S) else
  J8 k rec0 y0 y1 y2 y3 y4 y5 false S)
theorem J7_snd {k : Nat} {rec0 : (Option HA) → (Option HA) → Int → HS → Option (((List HV)) × HS)} (hrec0 : ∀ ⦃y0 : (Option HA)⦄ ⦃y1 : (Option HA)⦄ ⦃y5 : Int⦄ ⦃S : HS⦄ ⦃p : ((List HV)) × HS⦄ ⦃g2 g3 g4 g6 g7 g8 g9 g10 g11 g12 g13 g14 g15 g16 g17 g18 g19 g20 g21 g22 g23 g24 g25 g26 g27 g28 g29 g30 g31 g32 g33 g34 g35 g36 g37 g38 g39 g40 g41 g42 g43 g44 g45 g46 g47 g48 g49 g50 g51 g52 g53 g54 g55 g56 g57 g58 g59 g60 g61 g62 g63 g64 g65 g66 g67 g68 g69 g70 g71 g72 g73 g74 g75 g76 g77 g78 g79 g80 g81 g82 g83 g84 g85 g86 g87 g88 g89 g90 g91 g92 g93 : HV⦄, rec0 y0 y1 y5 S = some p → HRun Try.prog base W0 β0 32 none [.inLoop c9, .inBlock 0, .code c65] ⟨[(.ptr y0), (.ptr y1), g2, g3, g4, (.int .i64 y5), g6, g7, g8, g9, g10, g11, g12, g13, g14, g15, g16, g17, g18, g19, g20, g21, g22, g23, g24, g25, g26, g27, g28, g29, g30, g31, g32, g33, g34, g35, g36, g37, g38, g39, g40, g41, g42, g43, g44, g45, g46, g47, g48, g49, g50, g51, g52, g53, g54, g55, g56, g57, g58, g59, g60, g61, g62, g63, g64, g65, g66, g67, g68, g69, g70, g71, g72, g73, g74, g75, g76, g77, g78, g79, g80, g81, g82, g83, g84, g85, g86, g87, g88, g89, g90, g91, g92, g93], []⟩ S (fun v S1 => v = (.agg p.1) ∧ S1 = p.2)) {y0 : (Option HA)} {y1 : (Option HA)} {y2 : Int} {y3 : Bool} {y4 : Bool} {y5 : Int} {S : HS} {p : ((List HV)) × HS} {g6 g7 g8 g9 g10 g11 g12 g13 g14 g15 g16 g17 g18 g19 g20 g21 g22 g23 g24 g25 g26 g27 g28 g29 g30 g31 g32 g33 g34 g35 g36 g37 g38 g39 g40 g41 g42 g43 g44 g45 g46 g47 g48 g49 g50 g51 g52 g53 g54 g55 g56 g57 g58 g59 g60 g61 g62 g63 g64 g65 g66 g67 g68 g69 g70 g71 g72 g73 g74 g75 g76 g77 g78 g79 g80 g81 g82 g83 g84 g85 g86 g87 g88 g89 g90 g91 g92 g93 : HV} (h : J7 k rec0 y0 y1 y2 y3 y4 y5 S = some p) : HRun Try.prog base W0 β0 32 none [.code c41, .inBlock 1, .code c64, .inLoop c9, .inBlock 0, .code c65] ⟨[(.ptr y0), (.ptr y1), (.int .i64 y2), (.bool y3), (.bool y4), (.int .i64 y5), g6, g7, g8, g9, g10, g11, g12, g13, g14, g15, g16, g17, g18, g19, g20, g21, g22, g23, g24, g25, g26, g27, g28, g29, g30, g31, g32, g33, g34, g35, g36, g37, g38, g39, g40, g41, g42, g43, g44, g45, g46, g47, g48, g49, g50, g51, g52, g53, g54, g55, g56, g57, g58, g59, g60, g61, g62, g63, g64, g65, g66, g67, g68, g69, g70, g71, g72, g73, g74, g75, g76, g77, g78, g79, g80, g81, g82, g83, g84, g85, g86, g87, g88, g89, g90, g91, g92, g93], []⟩ S (fun v S1 => v = (.agg p.1) ∧ S1 = p.2) := by
  unfold J7 at h
  refine q_seq rfl ?_
  refine q_seq rfl ?_
  refine q_region rfl rfl ?_
  refine qS 49 rfl (ok_move · (.tmp rfl)) ?_
  refine qS 50 rfl (ok_move · (.tmp rfl)) ?_
  rcases ifc h with ⟨hc31, h⟩ | ⟨hc31, h⟩
  · refine qG 50 51 rfl hc31 (ok_move · (.tmp rfl)) ?_
    obtain ⟨p32, hp32, h⟩ := bindo h
    refine q_call_g (t := 50) (dst := some 52) rfl rfl rfl hc31 (.func _) (.cons (.str _) (.cons (.tmp rfl) Evs.nil)) (HInv.static valid_has.at_ valid_has.body (valid_has.snd  hp32)) ?_
    rintro _ _ ⟨rfl, rfl⟩
    try dsimp only [w0, w1, w2, w3]
    refine qG 50 53 rfl hc31 (ok_not · (.tmp rfl)) ?_
    refine qS 54 rfl (ok_pick_tt · (.tmp rfl) hc31 (.tmp rfl)) ?_
    refine hr_region_end ?_
    try dsimp only [w0, w1, w2, w3]
    try dsimp only [w0, w1, w2, w3]
    exact J8_snd hrec0 h
  · refine q_skip (dst := some 51) (t := 50) rfl rfl rfl (bfalse hc31) ?_
    refine q_skip (dst := some 52) (t := 50) rfl rfl rfl (bfalse hc31) ?_
    try dsimp only [w0, w1, w2, w3]
    refine q_skip (dst := some 53) (t := 50) rfl rfl rfl (bfalse hc31) ?_
    refine qS 54 rfl (ok_pick_ff · (.tmp rfl) (bfalse hc31) (.bool _)) ?_
    refine hr_region_end ?_
    try dsimp only [w0, w1, w2, w3]
    try dsimp only [w0, w1, w2, w3]
    exact J8_snd hrec0 h
def J6 (k : Nat) (rec0 : (Option HA) → (Option HA) → Int → HS → Option (((List HV)) × HS)) (y0 : (Option HA)) (y1 : (Option HA)) (y2 : Int) (y3 : Bool) (y4 : Bool) (y5 : Int) (S : HS) : Option (((List HV)) × HS) :=
  (Option.bind (valid_has.f ([0, 7, 10, 13, 32, 44, 58] : List UInt8) y2) fun p23 =>
  (if (!p23) = true then
  (Option.bind (y1) fun p25 =>
  (if 0 ≤ (y2 : Int) ∧ (y2 : Int) < 256 then
  (Option.bind (HS.ldI S .u16 (HA.fld p25 (Int.toNat y2))) fun p27 =>
  (Option.bind (y1) fun p28 =>
  (if 0 ≤ (y2 : Int) ∧ (y2 : Int) < 256 then
  (Option.bind (HS.sets S (HA.fld p28 (Int.toNat y2)) [(.int .u16 (ior .u16 p27 4))]) fun p30 =>
  J7 k rec0 y0 y1 y2 y3 y4 y5 p30) else none))) else none)) else
  J7 k rec0 y0 y1 y2 y3 y4 y5 S))
theorem J6_snd {k : Nat} {rec0 : (Option HA) → (Option HA) → Int → HS → Option (((List HV)) × HS)} (hrec0 : ∀ ⦃y0 : (Option HA)⦄ ⦃y1 : (Option HA)⦄ ⦃y5 : Int⦄ ⦃S : HS⦄ ⦃p : ((List HV)) × HS⦄ ⦃g2 g3 g4 g6 g7 g8 g9 g10 g11 g12 g13 g14 g15 g16 g17 g18 g19 g20 g21 g22 g23 g24 g25 g26 g27 g28 g29 g30 g31 g32 g33 g34 g35 g36 g37 g38 g39 g40 g41 g42 g43 g44 g45 g46 g47 g48 g49 g50 g51 g52 g53 g54 g55 g56 g57 g58 g59 g60 g61 g62 g63 g64 g65 g66 g67 g68 g69 g70 g71 g72 g73 g74 g75 g76 g77 g78 g79 g80 g81 g82 g83 g84 g85 g86 g87 g88 g89 g90 g91 g92 g93 : HV⦄, rec0 y0 y1 y5 S = some p → HRun Try.prog base W0 β0 32 none [.inLoop c9, .inBlock 0, .code c65] ⟨[(.ptr y0), (.ptr y1), g2, g3, g4, (.int .i64 y5), g6, g7, g8, g9, g10, g11, g12, g13, g14, g15, g16, g17, g18, g19, g20, g21, g22, g23, g24, g25, g26, g27, g28, g29, g30, g31, g32, g33, g34, g35, g36, g37, g38, g39, g40, g41, g42, g43, g44, g45, g46, g47, g48, g49, g50, g51, g52, g53, g54, g55, g56, g57, g58, g59, g60, g61, g62, g63, g64, g65, g66, g67, g68, g69, g70, g71, g72, g73, g74, g75, g76, g77, g78, g79, g80, g81, g82, g83, g84, g85, g86, g87, g88, g89, g90, g91, g92, g93], []⟩ S (fun v S1 => v = (.agg p.1) ∧ S1 = p.2)) {y0 : (Option HA)} {y1 : (Option HA)} {y2 : Int} {y3 : Bool} {y4 : Bool} {y5 : Int} {S : HS} {p : ((List HV)) × HS} {g6 g7 g8 g9 g10 g11 g12 g13 g14 g15 g16 g17 g18 g19 g20 g21 g22 g23 g24 g25 g26 g27 g28 g29 g30 g31 g32 g33 g34 g35 g36 g37 g38 g39 g40 g41 g42 g43 g44 g45 g46 g47 g48 g49 g50 g51 g52 g53 g54 g55 g56 g57 g58 g59 g60 g61 g62 g63 g64 g65 g66 g67 g68 g69 g70 g71 g72 g73 g74 g75 g76 g77 g78 g79 g80 g81 g82 g83 g84 g85 g86 g87 g88 g89 g90 g91 g92 g93 : HV} (h : J6 k rec0 y0 y1 y2 y3 y4 y5 S = some p) : HRun Try.prog base W0 β0 32 none [.code c35, .inBlock 1, .code c64, .inLoop c9, .inBlock 0, .code c65] ⟨[(.ptr y0), (.ptr y1), (.int .i64 y2), (.bool y3), (.bool y4), (.int .i64 y5), g6, g7, g8, g9, g10, g11, g12, g13, g14, g15, g16, g17, g18, g19, g20, g21, g22, g23, g24, g25, g26, g27, g28, g29, g30, g31, g32, g33, g34, g35, g36, g37, g38, g39, g40, g41, g42, g43, g44, g45, g46, g47, g48, g49, g50, g51, g52, g53, g54, g55, g56, g57, g58, g59, g60, g61, g62, g63, g64, g65, g66, g67, g68, g69, g70, g71, g72, g73, g74, g75, g76, g77, g78, g79, g80, g81, g82, g83, g84, g85, g86, g87, g88, g89, g90, g91, g92, g93], []⟩ S (fun v S1 => v = (.agg p.1) ∧ S1 = p.2) := by
  unfold J6 at h
  refine q_seq rfl ?_
  refine q_seq rfl ?_
  refine q_region rfl rfl ?_
  refine qS 41 rfl (ok_move · (.tmp rfl)) ?_
  obtain ⟨p23, hp23, h⟩ := bindo h
  refine q_call (dst := some 42) rfl (.func _) (.cons (.str _) (.cons (.tmp rfl) Evs.nil)) (HInv.static valid_has.at_ valid_has.body (valid_has.snd  hp23)) ?_
  rintro _ _ ⟨rfl, rfl⟩
  refine qS 43 rfl (ok_not · (.tmp rfl)) ?_
  refine hr_region_end ?_
  try dsimp only [w0, w1, w2, w3]
  rcases ifc h with ⟨hc24, h⟩ | ⟨hc24, h⟩
  · refine q_cond_t rfl (.tmp rfl) hc24 ?_
    refine q_region rfl rfl ?_
    refine qS 44 rfl (ok_move · (.tmp rfl)) ?_
    obtain ⟨p25, hp25, h⟩ := bindo h
    obtain ⟨hg26, h⟩ := gd h
    refine qS 45 rfl (ok_indexAddr_arr · ta61 sz59 (.tmp rfl) hp25 (.tmp rfl) hg26) ?_
    obtain ⟨p27, hp27, h⟩ := bindo h
    refine qS 46 rfl (ok_load_s · sc59 (.tmp rfl) rfl (ldI_out hp27)) ?_
    refine qS 47 rfl (ok_ibin · (.tmp rfl) (.int _ _) rfl) ?_
    try dsimp only [w0, w1, w2, w3]
    obtain ⟨p28, hp28, h⟩ := bindo h
    obtain ⟨hg29, h⟩ := gd h
    refine qS 48 rfl (ok_indexAddr_arr · ta61 sz59 (.tmp rfl) hp28 (.tmp rfl) hg29) ?_
    obtain ⟨p30, hp30, h⟩ := bindo h
    refine qN rfl (ok_store_s (v := (.int .u16 (ior .u16 p27 4))) · sz59 (.tmp rfl) rfl (.tmp rfl) rfl hp30) ?_
    refine hr_region_end ?_
    try dsimp only [w0, w1, w2, w3]
    try dsimp only [w0, w1, w2, w3]
    exact J7_snd hrec0 h
  · refine q_cond_f rfl (.tmp rfl) (bfalse hc24) ?_
    refine q_skipc rfl ?_
    try dsimp only [w0, w1, w2, w3]
    exact J7_snd hrec0 h
def J5 (k : Nat) (rec0 : (Option HA) → (Option HA) → Int → HS → Option (((List HV)) × HS)) (y0 : (Option HA)) (y1 : (Option HA)) (y2 : Int) (y3 : Bool) (y4 : Bool) (y5 : Int) (y35 : Bool) (S : HS) : Option (((List HV)) × HS) :=
  (if y35 = true then
  (Option.bind (y1) fun p17 =>
  (if 0 ≤ (y2 : Int) ∧ (y2 : Int) < 256 then
  (Option.bind (HS.ldI S .u16 (HA.fld p17 (Int.toNat y2))) fun p19 =>
  (Option.bind (y1) fun p20 =>
  (if 0 ≤ (y2 : Int) ∧ (y2 : Int) < 256 then
  (Option.bind (HS.sets S (HA.fld p20 (Int.toNat y2)) [(.int .u16 (ior .u16 p19 2))]) fun p22 =>
  J6 k rec0 y0 y1 y2 y3 y4 y5 p22) else none))) else none)) else
  J6 k rec0 y0 y1 y2 y3 y4 y5 S)
theorem J5_snd {k : Nat} {rec0 : (Option HA) → (Option HA) → Int → HS → Option (((List HV)) × HS)} (hrec0 : ∀ ⦃y0 : (Option HA)⦄ ⦃y1 : (Option HA)⦄ ⦃y5 : Int⦄ ⦃S : HS⦄ ⦃p : ((List HV)) × HS⦄ ⦃g2 g3 g4 g6 g7 g8 g9 g10 g11 g12 g13 g14 g15 g16 g17 g18 g19 g20 g21 g22 g23 g24 g25 g26 g27 g28 g29 g30 g31 g32 g33 g34 g35 g36 g37 g38 g39 g40 g41 g42 g43 g44 g45 g46 g47 g48 g49 g50 g51 g52 g53 g54 g55 g56 g57 g58 g59 g60 g61 g62 g63 g64 g65 g66 g67 g68 g69 g70 g71 g72 g73 g74 g75 g76 g77 g78 g79 g80 g81 g82 g83 g84 g85 g86 g87 g88 g89 g90 g91 g92 g93 : HV⦄, rec0 y0 y1 y5 S = some p → HRun Try.prog base W0 β0 32 none [.inLoop c9, .inBlock 0, .code c65] ⟨[(.ptr y0), (.ptr y1), g2, g3, g4, (.int .i64 y5), g6, g7, g8, g9, g10, g11, g12, g13, g14, g15, g16, g17, g18, g19, g20, g21, g22, g23, g24, g25, g26, g27, g28, g29, g30, g31, g32, g33, g34, g35, g36, g37, g38, g39, g40, g41, g42, g43, g44, g45, g46, g47, g48, g49, g50, g51, g52, g53, g54, g55, g56, g57, g58, g59, g60, g61, g62, g63, g64, g65, g66, g67, g68, g69, g70, g71, g72, g73, g74, g75, g76, g77, g78, g79, g80, g81, g82, g83, g84, g85, g86, g87, g88, g89, g90, g91, g92, g93], []⟩ S (fun v S1 => v = (.agg p.1) ∧ S1 = p.2)) {y0 : (Option HA)} {y1 : (Option HA)} {y2 : Int} {y3 : Bool} {y4 : Bool} {y5 : Int} {y35 : Bool} {S : HS} {p : ((List HV)) × HS} {g6 g7 g8 g9 g10 g11 g12 g13 g14 g15 g16 g17 g18 g19 g20 g21 g22 g23 g24 g25 g26 g27 g28 g29 g30 g31 g32 g33 g34 g36 g37 g38 g39 g40 g41 g42 g43 g44 g45 g46 g47 g48 g49 g50 g51 g52 g53 g54 g55 g56 g57 g58 g59 g60 g61 g62 g63 g64 g65 g66 g67 g68 g69 g70 g71 g72 g73 g74 g75 g76 g77 g78 g79 g80 g81 g82 g83 g84 g85 g86 g87 g88 g89 g90 g91 g92 g93 : HV} (h : J5 k rec0 y0 y1 y2 y3 y4 y5 y35 S = some p) : HRun Try.prog base W0 β0 32 none [.code c32, .code c35, .inBlock 1, .code c64, .inLoop c9, .inBlock 0, .code c65] ⟨[(.ptr y0), (.ptr y1), (.int .i64 y2), (.bool y3), (.bool y4), (.int .i64 y5), g6, g7, g8, g9, g10, g11, g12, g13, g14, g15, g16, g17, g18, g19, g20, g21, g22, g23, g24, g25, g26, g27, g28, g29, g30, g31, g32, g33, g34, (.bool y35), g36, g37, g38, g39, g40, g41, g42, g43, g44, g45, g46, g47, g48, g49, g50, g51, g52, g53, g54, g55, g56, g57, g58, g59, g60, g61, g62, g63, g64, g65, g66, g67, g68, g69, g70, g71, g72, g73, g74, g75, g76, g77, g78, g79, g80, g81, g82, g83, g84, g85, g86, g87, g88, g89, g90, g91, g92, g93], []⟩ S (fun v S1 => v = (.agg p.1) ∧ S1 = p.2) := by
  unfold J5 at h
  rcases ifc h with ⟨hc16, h⟩ | ⟨hc16, h⟩
  · refine q_cond_t rfl (.tmp rfl) hc16 ?_
    refine q_region rfl rfl ?_
    refine qS 36 rfl (ok_move · (.tmp rfl)) ?_
    obtain ⟨p17, hp17, h⟩ := bindo h
    obtain ⟨hg18, h⟩ := gd h
    refine qS 37 rfl (ok_indexAddr_arr · ta61 sz59 (.tmp rfl) hp17 (.tmp rfl) hg18) ?_
    obtain ⟨p19, hp19, h⟩ := bindo h
    refine qS 38 rfl (ok_load_s · sc59 (.tmp rfl) rfl (ldI_out hp19)) ?_
    refine qS 39 rfl (ok_ibin · (.tmp rfl) (.int _ _) rfl) ?_
    try dsimp only [w0, w1, w2, w3]
    obtain ⟨p20, hp20, h⟩ := bindo h
    obtain ⟨hg21, h⟩ := gd h
    refine qS 40 rfl (ok_indexAddr_arr · ta61 sz59 (.tmp rfl) hp20 (.tmp rfl) hg21) ?_
    obtain ⟨p22, hp22, h⟩ := bindo h
    refine qN rfl (ok_store_s (v := (.int .u16 (ior .u16 p19 2))) · sz59 (.tmp rfl) rfl (.tmp rfl) rfl hp22) ?_
    refine hr_region_end ?_
    try dsimp only [w0, w1, w2, w3]
    try dsimp only [w0, w1, w2, w3]
    exact J6_snd hrec0 h
  · refine q_cond_f rfl (.tmp rfl) (bfalse hc16) ?_
    refine q_skipc rfl ?_
    try dsimp only [w0, w1, w2, w3]
    exact J6_snd hrec0 h
def J4 (k : Nat) (rec0 : (Option HA) → (Option HA) → Int → HS → Option (((List HV)) × HS)) (y0 : (Option HA)) (y1 : (Option HA)) (y2 : Int) (y3 : Bool) (y4 : Bool) (y5 : Int) (S : HS) : Option (((List HV)) × HS) :=
  (if y3 = true then
  J5 k rec0 y0 y1 y2 y3 y4 y5 true S else
  J5 k rec0 y0 y1 y2 y3 y4 y5 (decide (y2 = 45)) S)
theorem J4_snd {k : Nat} {rec0 : (Option HA) → (Option HA) → Int → HS → Option (((List HV)) × HS)} (hrec0 : ∀ ⦃y0 : (Option HA)⦄ ⦃y1 : (Option HA)⦄ ⦃y5 : Int⦄ ⦃S : HS⦄ ⦃p : ((List HV)) × HS⦄ ⦃g2 g3 g4 g6 g7 g8 g9 g10 g11 g12 g13 g14 g15 g16 g17 g18 g19 g20 g21 g22 g23 g24 g25 g26 g27 g28 g29 g30 g31 g32 g33 g34 g35 g36 g37 g38 g39 g40 g41 g42 g43 g44 g45 g46 g47 g48 g49 g50 g51 g52 g53 g54 g55 g56 g57 g58 g59 g60 g61 g62 g63 g64 g65 g66 g67 g68 g69 g70 g71 g72 g73 g74 g75 g76 g77 g78 g79 g80 g81 g82 g83 g84 g85 g86 g87 g88 g89 g90 g91 g92 g93 : HV⦄, rec0 y0 y1 y5 S = some p → HRun Try.prog base W0 β0 32 none [.inLoop c9, .inBlock 0, .code c65] ⟨[(.ptr y0), (.ptr y1), g2, g3, g4, (.int .i64 y5), g6, g7, g8, g9, g10, g11, g12, g13, g14, g15, g16, g17, g18, g19, g20, g21, g22, g23, g24, g25, g26, g27, g28, g29, g30, g31, g32, g33, g34, g35, g36, g37, g38, g39, g40, g41, g42, g43, g44, g45, g46, g47, g48, g49, g50, g51, g52, g53, g54, g55, g56, g57, g58, g59, g60, g61, g62, g63, g64, g65, g66, g67, g68, g69, g70, g71, g72, g73, g74, g75, g76, g77, g78, g79, g80, g81, g82, g83, g84, g85, g86, g87, g88, g89, g90, g91, g92, g93], []⟩ S (fun v S1 => v = (.agg p.1) ∧ S1 = p.2)) {y0 : (Option HA)} {y1 : (Option HA)} {y2 : Int} {y3 : Bool} {y4 : Bool} {y5 : Int} {S : HS} {p : ((List HV)) × HS} {g6 g7 g8 g9 g10 g11 g12 g13 g14 g15 g16 g17 g18 g19 g20 g21 g22 g23 g24 g25 g26 g27 g28 g29 g30 g31 g32 g33 g34 g35 g36 g37 g38 g39 g40 g41 g42 g43 g44 g45 g46 g47 g48 g49 g50 g51 g52 g53 g54 g55 g56 g57 g58 g59 g60 g61 g62 g63 g64 g65 g66 g67 g68 g69 g70 g71 g72 g73 g74 g75 g76 g77 g78 g79 g80 g81 g82 g83 g84 g85 g86 g87 g88 g89 g90 g91 g92 g93 : HV} (h : J4 k rec0 y0 y1 y2 y3 y4 y5 S = some p) : HRun Try.prog base W0 β0 32 none [.code c29, .inBlock 1, .code c64, .inLoop c9, .inBlock 0, .code c65] ⟨[(.ptr y0), (.ptr y1), (.int .i64 y2), (.bool y3), (.bool y4), (.int .i64 y5), g6, g7, g8, g9, g10, g11, g12, g13, g14, g15, g16, g17, g18, g19, g20, g21, g22, g23, g24, g25, g26, g27, g28, g29, g30, g31, g32, g33, g34, g35, g36, g37, g38, g39, g40, g41, g42, g43, g44, g45, g46, g47, g48, g49, g50, g51, g52, g53, g54, g55, g56, g57, g58, g59, g60, g61, g62, g63, g64, g65, g66, g67, g68, g69, g70, g71, g72, g73, g74, g75, g76, g77, g78, g79, g80, g81, g82, g83, g84, g85, g86, g87, g88, g89, g90, g91, g92, g93], []⟩ S (fun v S1 => v = (.agg p.1) ∧ S1 = p.2) := by
  unfold J4 at h
  refine q_seq rfl ?_
  refine q_seq rfl ?_
  refine q_region rfl rfl ?_
  refine qS 31 rfl (ok_move · (.tmp rfl)) ?_
  refine qS 32 rfl (ok_move · (.tmp rfl)) ?_
  rcases ifc h with ⟨hc15, h⟩ | ⟨hc15, h⟩
  · refine q_skip (dst := some 33) (t := 32) rfl rfl rfl hc15 ?_
    refine q_skip (dst := some 34) (t := 32) rfl rfl rfl hc15 ?_
    try dsimp only [w0, w1, w2, w3]
    refine qS 35 rfl (ok_pick_tt · (.tmp rfl) hc15 (.bool _)) ?_
    refine hr_region_end ?_
    try dsimp only [w0, w1, w2, w3]
    try dsimp only [w0, w1, w2, w3]
    exact J5_snd hrec0 h
  · refine qG 32 33 rfl (bfalse hc15) (ok_move · (.tmp rfl)) ?_
    refine qG 32 34 rfl (bfalse hc15) (ok_ibin · (.tmp rfl) (.int _ _) rfl) ?_
    try dsimp only [w0, w1, w2, w3]
    refine qS 35 rfl (ok_pick_ff · (.tmp rfl) (bfalse hc15) (.tmp rfl)) ?_
    refine hr_region_end ?_
    try dsimp only [w0, w1, w2, w3]
    try dsimp only [w0, w1, w2, w3]
    exact J5_snd hrec0 h
def J3 (k : Nat) (rec0 : (Option HA) → (Option HA) → Int → HS → Option (((List HV)) × HS)) (y0 : (Option HA)) (y1 : (Option HA)) (y2 : Int) (y3 : Bool) (y4 : Bool) (y5 : Int) (y25 : Bool) (S : HS) : Option (((List HV)) × HS) :=
  (if y25 = true then
  (Option.bind (y1) fun p9 =>
  (if 0 ≤ (y2 : Int) ∧ (y2 : Int) < 256 then
  (Option.bind (HS.ldI S .u16 (HA.fld p9 (Int.toNat y2))) fun p11 =>
  (Option.bind (y1) fun p12 =>
  (if 0 ≤ (y2 : Int) ∧ (y2 : Int) < 256 then
  (Option.bind (HS.sets S (HA.fld p12 (Int.toNat y2)) [(.int .u16 (ior .u16 p11 3))]) fun p14 =>
  J4 k rec0 y0 y1 y2 y3 y4 y5 p14) else none))) else none)) else
  J4 k rec0 y0 y1 y2 y3 y4 y5 S)
theorem J3_snd {k : Nat} {rec0 : (Option HA) → (Option HA) → Int → HS → Option (((List HV)) × HS)} (hrec0 : ∀ ⦃y0 : (Option HA)⦄ ⦃y1 : (Option HA)⦄ ⦃y5 : Int⦄ ⦃S : HS⦄ ⦃p : ((List HV)) × HS⦄ ⦃g2 g3 g4 g6 g7 g8 g9 g10 g11 g12 g13 g14 g15 g16 g17 g18 g19 g20 g21 g22 g23 g24 g25 g26 g27 g28 g29 g30 g31 g32 g33 g34 g35 g36 g37 g38 g39 g40 g41 g42 g43 g44 g45 g46 g47 g48 g49 g50 g51 g52 g53 g54 g55 g56 g57 g58 g59 g60 g61 g62 g63 g64 g65 g66 g67 g68 g69 g70 g71 g72 g73 g74 g75 g76 g77 g78 g79 g80 g81 g82 g83 g84 g85 g86 g87 g88 g89 g90 g91 g92 g93 : HV⦄, rec0 y0 y1 y5 S = some p → HRun Try.prog base W0 β0 32 none [.inLoop c9, .inBlock 0, .code c65] ⟨[(.ptr y0), (.ptr y1), g2, g3, g4, (.int .i64 y5), g6, g7, g8, g9, g10, g11, g12, g13, g14, g15, g16, g17, g18, g19, g20, g21, g22, g23, g24, g25, g26, g27, g28, g29, g30, g31, g32, g33, g34, g35, g36, g37, g38, g39, g40, g41, g42, g43, g44, g45, g46, g47, g48, g49, g50, g51, g52, g53, g54, g55, g56, g57, g58, g59, g60, g61, g62, g63, g64, g65, g66, g67, g68, g69, g70, g71, g72, g73, g74, g75, g76, g77, g78, g79, g80, g81, g82, g83, g84, g85, g86, g87, g88, g89, g90, g91, g92, g93], []⟩ S (fun v S1 => v = (.agg p.1) ∧ S1 = p.2)) {y0 : (Option HA)} {y1 : (Option HA)} {y2 : Int} {y3 : Bool} {y4 : Bool} {y5 : Int} {y25 : Bool} {S : HS} {p : ((List HV)) × HS} {g6 g7 g8 g9 g10 g11 g12 g13 g14 g15 g16 g17 g18 g19 g20 g21 g22 g23 g24 g26 g27 g28 g29 g30 g31 g32 g33 g34 g35 g36 g37 g38 g39 g40 g41 g42 g43 g44 g45 g46 g47 g48 g49 g50 g51 g52 g53 g54 g55 g56 g57 g58 g59 g60 g61 g62 g63 g64 g65 g66 g67 g68 g69 g70 g71 g72 g73 g74 g75 g76 g77 g78 g79 g80 g81 g82 g83 g84 g85 g86 g87 g88 g89 g90 g91 g92 g93 : HV} (h : J3 k rec0 y0 y1 y2 y3 y4 y5 y25 S = some p) : HRun Try.prog base W0 β0 32 none [.code c26, .code c29, .inBlock 1, .code c64, .inLoop c9, .inBlock 0, .code c65] ⟨[(.ptr y0), (.ptr y1), (.int .i64 y2), (.bool y3), (.bool y4), (.int .i64 y5), g6, g7, g8, g9, g10, g11, g12, g13, g14, g15, g16, g17, g18, g19, g20, g21, g22, g23, g24, (.bool y25), g26, g27, g28, g29, g30, g31, g32, g33, g34, g35, g36, g37, g38, g39, g40, g41, g42, g43, g44, g45, g46, g47, g48, g49, g50, g51, g52, g53, g54, g55, g56, g57, g58, g59, g60, g61, g62, g63, g64, g65, g66, g67, g68, g69, g70, g71, g72, g73, g74, g75, g76, g77, g78, g79, g80, g81, g82, g83, g84, g85, g86, g87, g88, g89, g90, g91, g92, g93], []⟩ S (fun v S1 => v = (.agg p.1) ∧ S1 = p.2) := by
  unfold J3 at h
  rcases ifc h with ⟨hc8, h⟩ | ⟨hc8, h⟩
  · refine q_cond_t rfl (.tmp rfl) hc8 ?_
    refine q_region rfl rfl ?_
    refine qS 26 rfl (ok_move · (.tmp rfl)) ?_
    obtain ⟨p9, hp9, h⟩ := bindo h
    obtain ⟨hg10, h⟩ := gd h
    refine qS 27 rfl (ok_indexAddr_arr · ta61 sz59 (.tmp rfl) hp9 (.tmp rfl) hg10) ?_
    obtain ⟨p11, hp11, h⟩ := bindo h
    refine qS 28 rfl (ok_load_s · sc59 (.tmp rfl) rfl (ldI_out hp11)) ?_
    refine qS 29 rfl (ok_ibin · (.tmp rfl) (.int _ _) rfl) ?_
    try dsimp only [w0, w1, w2, w3]
    obtain ⟨p12, hp12, h⟩ := bindo h
    obtain ⟨hg13, h⟩ := gd h
    refine qS 30 rfl (ok_indexAddr_arr · ta61 sz59 (.tmp rfl) hp12 (.tmp rfl) hg13) ?_
    obtain ⟨p14, hp14, h⟩ := bindo h
    refine qN rfl (ok_store_s (v := (.int .u16 (ior .u16 p11 3))) · sz59 (.tmp rfl) rfl (.tmp rfl) rfl hp14) ?_
    refine hr_region_end ?_
    try dsimp only [w0, w1, w2, w3]
    try dsimp only [w0, w1, w2, w3]
    exact J4_snd hrec0 h
  · refine q_cond_f rfl (.tmp rfl) (bfalse hc8) ?_
    refine q_skipc rfl ?_
    try dsimp only [w0, w1, w2, w3]
    exact J4_snd hrec0 h
def J2 (k : Nat) (rec0 : (Option HA) → (Option HA) → Int → HS → Option (((List HV)) × HS)) (y0 : (Option HA)) (y1 : (Option HA)) (y2 : Int) (y3 : Bool) (y5 : Int) (y19 : Bool) (S : HS) : Option (((List HV)) × HS) :=
  (Option.bind (valid_letter.f y2) fun p6 =>
  (if p6 = true then
  J3 k rec0 y0 y1 y2 y3 y19 y5 true S else
  (Option.bind (valid_has.f ([91, 93, 92, 95, 94, 123, 124, 125, 96] : List UInt8) y2) fun p67 =>
  J3 k rec0 y0 y1 y2 y3 y19 y5 p67 S)))
theorem J2_snd {k : Nat} {rec0 : (Option HA) → (Option HA) → Int → HS → Option (((List HV)) × HS)} (hrec0 : ∀ ⦃y0 : (Option HA)⦄ ⦃y1 : (Option HA)⦄ ⦃y5 : Int⦄ ⦃S : HS⦄ ⦃p : ((List HV)) × HS⦄ ⦃g2 g3 g4 g6 g7 g8 g9 g10 g11 g12 g13 g14 g15 g16 g17 g18 g19 g20 g21 g22 g23 g24 g25 g26 g27 g28 g29 g30 g31 g32 g33 g34 g35 g36 g37 g38 g39 g40 g41 g42 g43 g44 g45 g46 g47 g48 g49 g50 g51 g52 g53 g54 g55 g56 g57 g58 g59 g60 g61 g62 g63 g64 g65 g66 g67 g68 g69 g70 g71 g72 g73 g74 g75 g76 g77 g78 g79 g80 g81 g82 g83 g84 g85 g86 g87 g88 g89 g90 g91 g92 g93 : HV⦄, rec0 y0 y1 y5 S = some p → HRun Try.prog base W0 β0 32 none [.inLoop c9, .inBlock 0, .code c65] ⟨[(.ptr y0), (.ptr y1), g2, g3, g4, (.int .i64 y5), g6, g7, g8, g9, g10, g11, g12, g13, g14, g15, g16, g17, g18, g19, g20, g21, g22, g23, g24, g25, g26, g27, g28, g29, g30, g31, g32, g33, g34, g35, g36, g37, g38, g39, g40, g41, g42, g43, g44, g45, g46, g47, g48, g49, g50, g51, g52, g53, g54, g55, g56, g57, g58, g59, g60, g61, g62, g63, g64, g65, g66, g67, g68, g69, g70, g71, g72, g73, g74, g75, g76, g77, g78, g79, g80, g81, g82, g83, g84, g85, g86, g87, g88, g89, g90, g91, g92, g93], []⟩ S (fun v S1 => v = (.agg p.1) ∧ S1 = p.2)) {y0 : (Option HA)} {y1 : (Option HA)} {y2 : Int} {y3 : Bool} {y5 : Int} {y19 : Bool} {S : HS} {p : ((List HV)) × HS} {g4 g6 g7 g8 g9 g10 g11 g12 g13 g14 g15 g16 g17 g18 g20 g21 g22 g23 g24 g25 g26 g27 g28 g29 g30 g31 g32 g33 g34 g35 g36 g37 g38 g39 g40 g41 g42 g43 g44 g45 g46 g47 g48 g49 g50 g51 g52 g53 g54 g55 g56 g57 g58 g59 g60 g61 g62 g63 g64 g65 g66 g67 g68 g69 g70 g71 g72 g73 g74 g75 g76 g77 g78 g79 g80 g81 g82 g83 g84 g85 g86 g87 g88 g89 g90 g91 g92 g93 : HV} (h : J2 k rec0 y0 y1 y2 y3 y5 y19 S = some p) : HRun Try.prog base W0 β0 32 none [.inRegion r22 [6], .code c23, .inBlock 1, .code c64, .inLoop c9, .inBlock 0, .code c65] ⟨[(.ptr y0), (.ptr y1), (.int .i64 y2), (.bool y3), g4, (.int .i64 y5), g6, g7, g8, g9, g10, g11, g12, g13, g14, g15, g16, g17, g18, (.bool y19), g20, g21, g22, g23, g24, g25, g26, g27, g28, g29, g30, g31, g32, g33, g34, g35, g36, g37, g38, g39, g40, g41, g42, g43, g44, g45, g46, g47, g48, g49, g50, g51, g52, g53, g54, g55, g56, g57, g58, g59, g60, g61, g62, g63, g64, g65, g66, g67, g68, g69, g70, g71, g72, g73, g74, g75, g76, g77, g78, g79, g80, g81, g82, g83, g84, g85, g86, g87, g88, g89, g90, g91, g92, g93], []⟩ S (fun v S1 => v = (.agg p.1) ∧ S1 = p.2) := by
  unfold J2 at h
  refine qS 4 rfl (ok_assign · (.tmp rfl)) ?_
  refine hr_region_end ?_
  try dsimp only [w0, w1, w2, w3]
  refine q_seq rfl ?_
  refine q_seq rfl ?_
  refine q_region rfl rfl ?_
  refine qS 20 rfl (ok_move · (.tmp rfl)) ?_
  obtain ⟨p6, hp6, h⟩ := bindo h
  refine q_call (dst := some 21) rfl (.func _) (.cons (.tmp rfl) Evs.nil) (HInv.static valid_letter.at_ valid_letter.body (valid_letter.snd  hp6)) ?_
  rintro _ _ ⟨rfl, rfl⟩
  refine qS 22 rfl (ok_move · (.tmp rfl)) ?_
  rcases ifc h with ⟨hc7, h⟩ | ⟨hc7, h⟩
  · refine q_skip (dst := some 23) (t := 22) rfl rfl rfl hc7 ?_
    try dsimp only [w0, w1, w2, w3]
    refine q_skip (dst := some 24) (t := 22) rfl rfl rfl hc7 ?_
    refine qS 25 rfl (ok_pick_tt · (.tmp rfl) hc7 (.bool _)) ?_
    refine hr_region_end ?_
    try dsimp only [w0, w1, w2, w3]
    try dsimp only [w0, w1, w2, w3]
    exact J3_snd hrec0 h
  · refine qG 22 23 rfl (bfalse hc7) (ok_move · (.tmp rfl)) ?_
    try dsimp only [w0, w1, w2, w3]
    obtain ⟨p67, hp67, h⟩ := bindo h
    refine q_call_g (t := 22) (dst := some 24) rfl rfl rfl (bfalse hc7) (.func _) (.cons (.str _) (.cons (.tmp rfl) Evs.nil)) (HInv.static valid_has.at_ valid_has.body (valid_has.snd  hp67)) ?_
    rintro _ _ ⟨rfl, rfl⟩
    refine qS 25 rfl (ok_pick_ff · (.tmp rfl) (bfalse hc7) (.tmp rfl)) ?_
    refine hr_region_end ?_
    try dsimp only [w0, w1, w2, w3]
    try dsimp only [w0, w1, w2, w3]
    exact J3_snd hrec0 h
def J1 (k : Nat) (rec0 : (Option HA) → (Option HA) → Int → HS → Option (((List HV)) × HS)) (y0 : (Option HA)) (y1 : (Option HA)) (y2 : Int) (y5 : Int) (y13 : Bool) (S : HS) : Option (((List HV)) × HS) :=
  (if y2 ≥ 33 then
  J2 k rec0 y0 y1 y2 y13 y5 (decide (y2 ≤ 126)) S else
  J2 k rec0 y0 y1 y2 y13 y5 false S)
theorem J1_snd {k : Nat} {rec0 : (Option HA) → (Option HA) → Int → HS → Option (((List HV)) × HS)} (hrec0 : ∀ ⦃y0 : (Option HA)⦄ ⦃y1 : (Option HA)⦄ ⦃y5 : Int⦄ ⦃S : HS⦄ ⦃p : ((List HV)) × HS⦄ ⦃g2 g3 g4 g6 g7 g8 g9 g10 g11 g12 g13 g14 g15 g16 g17 g18 g19 g20 g21 g22 g23 g24 g25 g26 g27 g28 g29 g30 g31 g32 g33 g34 g35 g36 g37 g38 g39 g40 g41 g42 g43 g44 g45 g46 g47 g48 g49 g50 g51 g52 g53 g54 g55 g56 g57 g58 g59 g60 g61 g62 g63 g64 g65 g66 g67 g68 g69 g70 g71 g72 g73 g74 g75 g76 g77 g78 g79 g80 g81 g82 g83 g84 g85 g86 g87 g88 g89 g90 g91 g92 g93 : HV⦄, rec0 y0 y1 y5 S = some p → HRun Try.prog base W0 β0 32 none [.inLoop c9, .inBlock 0, .code c65] ⟨[(.ptr y0), (.ptr y1), g2, g3, g4, (.int .i64 y5), g6, g7, g8, g9, g10, g11, g12, g13, g14, g15, g16, g17, g18, g19, g20, g21, g22, g23, g24, g25, g26, g27, g28, g29, g30, g31, g32, g33, g34, g35, g36, g37, g38, g39, g40, g41, g42, g43, g44, g45, g46, g47, g48, g49, g50, g51, g52, g53, g54, g55, g56, g57, g58, g59, g60, g61, g62, g63, g64, g65, g66, g67, g68, g69, g70, g71, g72, g73, g74, g75, g76, g77, g78, g79, g80, g81, g82, g83, g84, g85, g86, g87, g88, g89, g90, g91, g92, g93], []⟩ S (fun v S1 => v = (.agg p.1) ∧ S1 = p.2)) {y0 : (Option HA)} {y1 : (Option HA)} {y2 : Int} {y5 : Int} {y13 : Bool} {S : HS} {p : ((List HV)) × HS} {g3 g4 g6 g7 g8 g9 g10 g11 g12 g14 g15 g16 g17 g18 g19 g20 g21 g22 g23 g24 g25 g26 g27 g28 g29 g30 g31 g32 g33 g34 g35 g36 g37 g38 g39 g40 g41 g42 g43 g44 g45 g46 g47 g48 g49 g50 g51 g52 g53 g54 g55 g56 g57 g58 g59 g60 g61 g62 g63 g64 g65 g66 g67 g68 g69 g70 g71 g72 g73 g74 g75 g76 g77 g78 g79 g80 g81 g82 g83 g84 g85 g86 g87 g88 g89 g90 g91 g92 g93 : HV} (h : J1 k rec0 y0 y1 y2 y5 y13 S = some p) : HRun Try.prog base W0 β0 32 none [.inRegion r20 [6], .code c21, .inBlock 1, .code c64, .inLoop c9, .inBlock 0, .code c65] ⟨[(.ptr y0), (.ptr y1), (.int .i64 y2), g3, g4, (.int .i64 y5), g6, g7, g8, g9, g10, g11, g12, (.bool y13), g14, g15, g16, g17, g18, g19, g20, g21, g22, g23, g24, g25, g26, g27, g28, g29, g30, g31, g32, g33, g34, g35, g36, g37, g38, g39, g40, g41, g42, g43, g44, g45, g46, g47, g48, g49, g50, g51, g52, g53, g54, g55, g56, g57, g58, g59, g60, g61, g62, g63, g64, g65, g66, g67, g68, g69, g70, g71, g72, g73, g74, g75, g76, g77, g78, g79, g80, g81, g82, g83, g84, g85, g86, g87, g88, g89, g90, g91, g92, g93], []⟩ S (fun v S1 => v = (.agg p.1) ∧ S1 = p.2) := by
  unfold J1 at h
  refine qS 3 rfl (ok_assign · (.tmp rfl)) ?_
  refine hr_region_end ?_
  try dsimp only [w0, w1, w2, w3]
  refine q_seq rfl ?_
  refine q_region rfl rfl ?_
  refine qS 14 rfl (ok_move · (.tmp rfl)) ?_
  refine qS 15 rfl (ok_ibin · (.tmp rfl) (.int _ _) rfl) ?_
  refine qS 16 rfl (ok_move · (.tmp rfl)) ?_
  rcases ifc h with ⟨hc5, h⟩ | ⟨hc5, h⟩
  · refine qG 16 17 rfl (decide_eq_true hc5) (ok_move · (.tmp rfl)) ?_
    try dsimp only [w0, w1, w2, w3]
    refine qG 16 18 rfl (decide_eq_true hc5) (ok_ibin · (.tmp rfl) (.int _ _) rfl) ?_
    refine qS 19 rfl (ok_pick_tt · (.tmp rfl) (decide_eq_true hc5) (.tmp rfl)) ?_
    try dsimp only [w0, w1, w2, w3]
    exact J2_snd hrec0 h
  · refine q_skip (dst := some 17) (t := 16) rfl rfl rfl (decide_eq_false hc5) ?_
    try dsimp only [w0, w1, w2, w3]
    refine q_skip (dst := some 18) (t := 16) rfl rfl rfl (decide_eq_false hc5) ?_
    refine qS 19 rfl (ok_pick_ff · (.tmp rfl) (decide_eq_false hc5) (.bool _)) ?_
    try dsimp only [w0, w1, w2, w3]
    exact J2_snd hrec0 h
def L0 (k : Nat) : Nat → (Option HA) → (Option HA) → Int → HS → Option (((List HV)) × HS)
  | 0, _, _, _, _ => none
  | n + 1, y0, y1, y5, S =>
    (if y5 < 256 then
    (if y5 ≥ 48 then
    J1 k (L0 k n) y0 y1 y5 y5 (decide (y5 ≤ 57)) S else
    J1 k (L0 k n) y0 y1 y5 y5 false S) else
    (Option.bind (y1) fun p68 =>
    (Option.bind (HS.gets S p68 256) fun p69 =>
    (Option.bind (y0) fun p70 =>
    (if List.length p69 = 256 ∧ List.all p69 HV.flat = true then
    (Option.bind (HS.sets S p70 p69) fun p72 =>
    (Option.bind (y0) fun p73 =>
    (Option.bind (HS.gets p72 p73 256) fun p74 =>
    some (p74, p72)))) else none)))))
theorem L0_snd {k : Nat}  : ∀ {n : Nat} ⦃y0 : (Option HA)⦄ ⦃y1 : (Option HA)⦄ ⦃y5 : Int⦄ ⦃S : HS⦄ ⦃p : ((List HV)) × HS⦄ ⦃g2 g3 g4 g6 g7 g8 g9 g10 g11 g12 g13 g14 g15 g16 g17 g18 g19 g20 g21 g22 g23 g24 g25 g26 g27 g28 g29 g30 g31 g32 g33 g34 g35 g36 g37 g38 g39 g40 g41 g42 g43 g44 g45 g46 g47 g48 g49 g50 g51 g52 g53 g54 g55 g56 g57 g58 g59 g60 g61 g62 g63 g64 g65 g66 g67 g68 g69 g70 g71 g72 g73 g74 g75 g76 g77 g78 g79 g80 g81 g82 g83 g84 g85 g86 g87 g88 g89 g90 g91 g92 g93 : HV⦄, L0 k n y0 y1 y5 S = some p → HRun Try.prog base W0 β0 32 none [.inLoop c9, .inBlock 0, .code c65] ⟨[(.ptr y0), (.ptr y1), g2, g3, g4, (.int .i64 y5), g6, g7, g8, g9, g10, g11, g12, g13, g14, g15, g16, g17, g18, g19, g20, g21, g22, g23, g24, g25, g26, g27, g28, g29, g30, g31, g32, g33, g34, g35, g36, g37, g38, g39, g40, g41, g42, g43, g44, g45, g46, g47, g48, g49, g50, g51, g52, g53, g54, g55, g56, g57, g58, g59, g60, g61, g62, g63, g64, g65, g66, g67, g68, g69, g70, g71, g72, g73, g74, g75, g76, g77, g78, g79, g80, g81, g82, g83, g84, g85, g86, g87, g88, g89, g90, g91, g92, g93], []⟩ S (fun v S1 => v = (.agg p.1) ∧ S1 = p.2) := by
  intro n
  induction n with
  | zero => intro _ _ _ _ _ _ _ _ _ _ _ _ _ _ _ _ _ _ _ _ _ _ _ _ _ _ _ _ _ _ _ _ _ _ _ _ _ _ _ _ _ _ _ _ _ _ _ _ _ _ _ _ _ _ _ _ _ _ _ _ _ _ _ _ _ _ _ _ _ _ _ _ _ _ _ _ _ _ _ _ _ _ _ _ _ _ _ _ _ _ _ _ _ _ _ _ h; cases h
  | succ n ih =>
    intro y0 y1 y5 S p g2 g3 g4 g6 g7 g8 g9 g10 g11 g12 g13 g14 g15 g16 g17 g18 g19 g20 g21 g22 g23 g24 g25 g26 g27 g28 g29 g30 g31 g32 g33 g34 g35 g36 g37 g38 g39 g40 g41 g42 g43 g44 g45 g46 g47 g48 g49 g50 g51 g52 g53 g54 g55 g56 g57 g58 g59 g60 g61 g62 g63 g64 g65 g66 g67 g68 g69 g70 g71 g72 g73 g74 g75 g76 g77 g78 g79 g80 g81 g82 g83 g84 g85 g86 g87 g88 g89 g90 g91 g92 g93 h
    simp only [L0] at h
    refine hr_inLoop ?_
    refine q_seq rfl ?_
    refine q_region rfl rfl ?_
    refine qS 6 rfl (ok_ibin · (.tmp rfl) (.int _ _) rfl) ?_
    refine hr_region_end ?_
    try dsimp only [w0, w1, w2, w3]
    refine q_seq rfl ?_
    rcases ifc h with ⟨hc3, h⟩ | ⟨hc3, h⟩
    · refine q_cond_t rfl (.tmp rfl) (decide_eq_true hc3) ?_
      refine q_skipc rfl ?_
      refine q_seq rfl ?_
      refine q_block rfl ?_
      refine q_seq rfl ?_
      refine q_region rfl rfl ?_
      refine qS 7 rfl (ok_move · (.tmp rfl)) ?_
      refine qS 2 rfl (ok_assign · (.tmp rfl)) ?_
      refine hr_region_end ?_
      try dsimp only [w0, w1, w2, w3]
      refine q_seq rfl ?_
      refine q_region rfl rfl ?_
      refine qS 8 rfl (ok_move · (.tmp rfl)) ?_
      refine qS 9 rfl (ok_ibin · (.tmp rfl) (.int _ _) rfl) ?_
      refine qS 10 rfl (ok_move · (.tmp rfl)) ?_
      rcases ifc h with ⟨hc4, h⟩ | ⟨hc4, h⟩
      · refine qG 10 11 rfl (decide_eq_true hc4) (ok_move · (.tmp rfl)) ?_
        try dsimp only [w0, w1, w2, w3]
        refine qG 10 12 rfl (decide_eq_true hc4) (ok_ibin · (.tmp rfl) (.int _ _) rfl) ?_
        refine qS 13 rfl (ok_pick_tt · (.tmp rfl) (decide_eq_true hc4) (.tmp rfl)) ?_
        try dsimp only [w0, w1, w2, w3]
        exact J1_snd ih h
      · refine q_skip (dst := some 11) (t := 10) rfl rfl rfl (decide_eq_false hc4) ?_
        try dsimp only [w0, w1, w2, w3]
        refine q_skip (dst := some 12) (t := 10) rfl rfl rfl (decide_eq_false hc4) ?_
        refine qS 13 rfl (ok_pick_ff · (.tmp rfl) (decide_eq_false hc4) (.bool _)) ?_
        try dsimp only [w0, w1, w2, w3]
        exact J1_snd ih h
    · refine q_cond_f rfl (.tmp rfl) (decide_eq_false hc3) ?_
      refine q_exit rfl rfl ?_
      refine q_seq rfl ?_
      refine q_region rfl rfl ?_
      obtain ⟨p68, hp68, h⟩ := bindo h
      obtain ⟨p69, hp69, h⟩ := bindo h
      refine qS 93 rfl (ok_load_arr · ia61 (.tmp rfl) hp68 hp69) ?_
      obtain ⟨p70, hp70, h⟩ := bindo h
      obtain ⟨hg71, h⟩ := gd h
      obtain ⟨p72, hp72, h⟩ := bindo h
      refine qN rfl (ok_store_arr · sz61 (.tmp rfl) hp70 (.tmp rfl) hg71 hp72) ?_
      refine hr_region_end ?_
      try dsimp only [w0, w1, w2, w3]
      obtain ⟨p73, hp73, h⟩ := bindo h
      obtain ⟨p74, hp74, h⟩ := bindo h
      cases h
      exact q_ret rfl at_.at_ rfl (resL1 rfl (ResAt.arr rfl hp73 ia61 (by decide) hp74)) ⟨rfl, rfl⟩
def f (k : Nat) (S : HS) : Option (((List HV)) × HS) :=
  (letv (HS.new S (.cells 256 [List.replicate 256 (.int .u16 0)] true)) fun p1 =>
  (letv (HS.new p1 (.cells 256 [List.replicate 256 (.int .u16 0)] true)) fun p2 =>
  L0 k k (some (HA.cell0 S.next)) (some (HA.cell0 p1.next)) 0 p2))
theorem snd {k : Nat} {S : HS}  {p : ((List HV)) × HS} (h : f k S = some p) : HCall Try.prog base W0 β0 32 [] S (fun v S1 => v = (.agg p.1) ∧ S1 = p.2) := by
  unfold f at h
  refine HCall.of_run at_.at_ body ?_
  show HRun Try.prog base W0 β0 32 none [.code c0] ⟨[τ, τ, τ, τ, τ, τ, τ, τ, τ, τ, τ, τ, τ, τ, τ, τ, τ, τ, τ, τ, τ, τ, τ, τ, τ, τ, τ, τ, τ, τ, τ, τ, τ, τ, τ, τ, τ, τ, τ, τ, τ, τ, τ, τ, τ, τ, τ, τ, τ, τ, τ, τ, τ, τ, τ, τ, τ, τ, τ, τ, τ, τ, τ, τ, τ, τ, τ, τ, τ, τ, τ, τ, τ, τ, τ, τ, τ, τ, τ, τ, τ, τ, τ, τ, τ, τ, τ, τ, τ, τ, τ, τ, τ, τ], []⟩ S _
  refine q_seq rfl ?_
  refine q_region rfl rfl ?_
  obtain ⟨p1, hp1, h⟩ := leto h
  refine qS 0 rfl (ok_alloc_arr · za61 (fun β => .int _ _) (by decide) rfl hp1) ?_
  refine hr_region_end ?_
  try dsimp only [w0, w1, w2, w3]
  refine q_seq rfl ?_
  refine q_region rfl rfl ?_
  obtain ⟨p2, hp2, h⟩ := leto h
  refine qS 1 rfl (ok_alloc_arr · za61 (fun β => .int _ _) (by decide) rfl hp2) ?_
  refine hr_region_end ?_
  try dsimp only [w0, w1, w2, w3]
  refine q_seq rfl ?_
  refine q_seq rfl ?_
  refine q_region rfl rfl ?_
  refine qS 5 rfl (ok_move · (.int _ _)) ?_
  refine hr_region_end ?_
  try dsimp only [w0, w1, w2, w3]
  refine q_block rfl ?_
  refine q_loop rfl ?_
  try dsimp only [w0, w1, w2, w3]
  exact L0_snd  h
end
end valid_kinds
namespace valid_all
theorem at_ : FnAt Try.prog 28 Try.f28 := ⟨Try.func28, by kernel_rfl⟩
noncomputable def d0 := (Try.f28.body).getD .skip
noncomputable def r1 := kR (kA d0)
noncomputable def r4 := kR (kA (kA (kB d0)))
noncomputable def r7 := kR (kA (kA (kB (kA (kB d0)))))
noncomputable def r11 := kR (kA (kB (kB d0)))
noncomputable def d12 := kB (kB (kB d0))
noncomputable def r14 := kR (kA (kA d12))
noncomputable def d16 := kA (kB (kA d12))
noncomputable def r18 := kR (kA (kA d16))
noncomputable def d23 := kB (kB (kA d16))
noncomputable def r26 := kR (kA (kA (kA d23)))
noncomputable def r28 := kR (kA (kB (kA (kA d23))))
noncomputable def r31 := kR (kA (kA (kB (kB (kA (kA d23))))))
noncomputable def r34 := kR (kB d23)
noncomputable def r36 := kR (kA (kB d12))
noncomputable def c35 : Code := .seq (.region 10 r36 false) .ret
noncomputable def c17 : Code := .seq (.region 5 r18 false) (.seq (.cond (.tmp 25) .skip (.exit 0)) (.seq (.block 1 (.seq (.region 6 r26 false) (.seq (.region 7 r28 false) (.cond (.tmp 34) (.seq (.region 8 r31 false) .ret) .skip)))) (.region 9 r34 false)))
noncomputable def c10 : Code := .seq (.region 3 r11 false) (.seq (.seq (.region 4 r14 false) (.block 0 (.loop c17))) c35)
noncomputable def c5 : Code := .cond (.tmp 20) (.seq (.region 2 r7 false) .ret) .skip
noncomputable def c0 : Code := .seq (.region 0 r1 false) (.seq (.seq (.region 1 r4 false) c5) c10)
theorem body : Try.f28.body = some c0 := by kernel_rfl
section
variable {base : Nat} {W0 : World} {β0 : Bt}
def L1 (k : Nat) : Nat → (List UInt8) → Int → (Option HA) → Int → Int → HS → Option ((Bool) × HS)
  | 0, _, _, _, _, _, _ => none
  | n + 1, y0, y3, y9, y23, y24, S =>
    (if y24 < y23 then
    (Option.bind (sat y0 y24) fun p8 =>
    (Option.bind (y9) fun p9 =>
    (if 0 ≤ ((UInt8.toNat p8 : Int) : Int) ∧ ((UInt8.toNat p8 : Int) : Int) < 256 then
    (Option.bind (HS.ldI S .u16 (HA.fld p9 (Int.toNat (UInt8.toNat p8 : Int)))) fun p11 =>
    (if (iand .u16 p11 y3) = 0 then
    some (false, S) else
    (L1 k n) y0 y3 y9 y23 (w64 (y24 + 1)) S)) else none))) else
    some (true, S))
theorem L1_snd {k : Nat}  : ∀ {n : Nat} ⦃y0 : (List UInt8)⦄ ⦃y3 : Int⦄ ⦃y9 : (Option HA)⦄ ⦃y23 : Int⦄ ⦃y24 : Int⦄ ⦃S : HS⦄ ⦃p : (Bool) × HS⦄ ⦃g1 g2 g4 g5 g6 g7 g8 g10 g11 g12 g13 g14 g15 g16 g17 g18 g19 g20 g21 g22 g25 g26 g27 g28 g29 g30 g31 g32 g33 g34 g35 : HV⦄, L1 k n y0 y3 y9 y23 y24 S = some p → HRun Try.prog base W0 β0 28 none [.inLoop c17, .inBlock 0, .code c35] ⟨[(.str y0), g1, g2, (.int .u16 y3), g4, g5, g6, g7, g8, (.ptr y9), g10, g11, g12, g13, g14, g15, g16, g17, g18, g19, g20, g21, g22, (.int .i64 y23), (.int .i64 y24), g25, g26, g27, g28, g29, g30, g31, g32, g33, g34, g35], []⟩ S (fun v S1 => v = (.bool p.1) ∧ S1 = p.2) := by
  intro n
  induction n with
  | zero => intro _ _ _ _ _ _ _ _ _ _ _ _ _ _ _ _ _ _ _ _ _ _ _ _ _ _ _ _ _ _ _ _ _ _ _ _ _ _ h; cases h
  | succ n ih =>
    intro y0 y3 y9 y23 y24 S p g1 g2 g4 g5 g6 g7 g8 g10 g11 g12 g13 g14 g15 g16 g17 g18 g19 g20 g21 g22 g25 g26 g27 g28 g29 g30 g31 g32 g33 g34 g35 h
    simp only [L1] at h
    refine hr_inLoop ?_
    refine q_seq rfl ?_
    refine q_region rfl rfl ?_
    refine qS 25 rfl (ok_ibin · (.tmp rfl) (.tmp rfl) rfl) ?_
    refine hr_region_end ?_
    try dsimp only [w0, w1, w2, w3]
    refine q_seq rfl ?_
    rcases ifc h with ⟨hc7, h⟩ | ⟨hc7, h⟩
    · refine q_cond_t rfl (.tmp rfl) (decide_eq_true hc7) ?_
      refine q_skipc rfl ?_
      refine q_seq rfl ?_
      refine q_block rfl ?_
      refine q_seq rfl ?_
      refine q_region rfl rfl ?_
      refine qS 26 rfl (ok_move · (.tmp rfl)) ?_
      refine qS 10 rfl (ok_assign · (.tmp rfl)) ?_
      refine hr_region_end ?_
      try dsimp only [w0, w1, w2, w3]
      refine q_seq rfl ?_
      refine q_region rfl rfl ?_
      refine qS 27 rfl (ok_move · (.tmp rfl)) ?_
      refine qS 28 rfl (ok_move · (.tmp rfl)) ?_
      obtain ⟨p8, hp8, h⟩ := bindo h
      refine qS 29 rfl (ok_index_s · tu9 (.tmp rfl) (.tmp rfl) hp8) ?_
      obtain ⟨p9, hp9, h⟩ := bindo h
      obtain ⟨hg10, h⟩ := gd h
      refine qS 30 rfl (ok_indexAddr_arr · ta61 sz59 (.tmp rfl) hp9 (.tmp rfl) hg10) ?_
      try dsimp only [w0, w1, w2, w3]
      obtain ⟨p11, hp11, h⟩ := bindo h
      refine qS 31 rfl (ok_load_s · sc59 (.tmp rfl) rfl (ldI_out hp11)) ?_
      refine qS 32 rfl (ok_move · (.tmp rfl)) ?_
      refine qS 33 rfl (ok_ibin · (.tmp rfl) (.tmp rfl) rfl) ?_
      refine qS 34 rfl (ok_ibin · (.tmp rfl) (.int _ _) rfl) ?_
      refine hr_region_end ?_
      try dsimp only [w0, w1, w2, w3]
      rcases ifc h with ⟨hc12, h⟩ | ⟨hc12, h⟩
      · refine q_cond_t rfl (.tmp rfl) (decide_eq_true hc12) ?_
        refine q_seq rfl ?_
        refine q_region rfl rfl ?_
        refine qS 8 rfl (ok_assign · (.bool _)) ?_
        refine hr_region_end ?_
        try dsimp only [w0, w1, w2, w3]
        cases h
        exact q_ret rfl at_.at_ rfl (res1 rfl rfl) ⟨rfl, rfl⟩
      · refine q_cond_f rfl (.tmp rfl) (decide_eq_false hc12) ?_
        refine q_skipc rfl ?_
        refine hr_inBlock ?_
        refine q_region rfl rfl ?_
        refine qS 35 rfl (ok_ibin · (.tmp rfl) (.int _ _) rfl) ?_
        refine qS 24 rfl (ok_move · (.tmp rfl)) ?_
        refine hr_region_end ?_
        try dsimp only [w0, w1, w2, w3]
        try dsimp only [w0, w1, w2, w3]
        exact ih h
    · refine q_cond_f rfl (.tmp rfl) (decide_eq_false hc7) ?_
      refine q_exit rfl rfl ?_
      refine q_seq rfl ?_
      refine q_region rfl rfl ?_
      refine qS 8 rfl (ok_assign · (.bool _)) ?_
      refine hr_region_end ?_
      try dsimp only [w0, w1, w2, w3]
      cases h
      exact q_ret rfl at_.at_ rfl (res1 rfl rfl) ⟨rfl, rfl⟩
def J0 (k : Nat) (y0 : (List UInt8)) (y3 : Int) (y20 : Bool) (S : HS) : Option ((Bool) × HS) :=
  (if y20 = true then
  some (false, S) else
  (Option.bind (valid_kinds.f k S) fun p3 =>
  (letv (HS.new p3.2 (.cells 256 [List.replicate 256 (.int .u16 0)] true)) fun p4 =>
  (if List.length p3.1 = 256 ∧ List.all p3.1 HV.flat = true then
  (Option.bind (HS.sets p4 (HA.cell0 p3.2.next) p3.1) fun p6 =>
  L1 k k y0 y3 (some (HA.cell0 p3.2.next)) (List.length y0 : Int) 0 p6) else none))))
theorem J0_snd {k : Nat}  {y0 : (List UInt8)} {y3 : Int} {y20 : Bool} {S : HS} {p : (Bool) × HS} {g1 g2 g4 g5 g6 g7 g8 g9 g10 g11 g12 g13 g14 g15 g16 g17 g18 g19 g21 g22 g23 g24 g25 g26 g27 g28 g29 g30 g31 g32 g33 g34 g35 : HV} (h : J0 k y0 y3 y20 S = some p) : HRun Try.prog base W0 β0 28 none [.code c5, .code c10] ⟨[(.str y0), g1, g2, (.int .u16 y3), g4, g5, g6, g7, g8, g9, g10, g11, g12, g13, g14, g15, g16, g17, g18, g19, (.bool y20), g21, g22, g23, g24, g25, g26, g27, g28, g29, g30, g31, g32, g33, g34, g35], []⟩ S (fun v S1 => v = (.bool p.1) ∧ S1 = p.2) := by
  unfold J0 at h
  rcases ifc h with ⟨hc2, h⟩ | ⟨hc2, h⟩
  · refine q_cond_t rfl (.tmp rfl) hc2 ?_
    refine q_seq rfl ?_
    refine q_region rfl rfl ?_
    refine qS 8 rfl (ok_assign · (.bool _)) ?_
    refine hr_region_end ?_
    try dsimp only [w0, w1, w2, w3]
    cases h
    exact q_ret rfl at_.at_ rfl (res1 rfl rfl) ⟨rfl, rfl⟩
  · refine q_cond_f rfl (.tmp rfl) (bfalse hc2) ?_
    refine q_skipc rfl ?_
    refine q_seq rfl ?_
    refine q_region rfl rfl ?_
    obtain ⟨p3, hp3, h⟩ := bindo h
    refine q_call (dst := some 21) rfl (.func _) Evs.nil (HInv.static valid_kinds.at_ valid_kinds.body (valid_kinds.snd  hp3)) ?_
    rintro _ _ ⟨rfl, rfl⟩
    obtain ⟨p4, hp4, h⟩ := leto h
    refine qS 9 rfl (ok_alloc_arr · za61 (fun β => .int _ _) (by decide) rfl hp4) ?_
    obtain ⟨hg5, h⟩ := gd h
    obtain ⟨p6, hp6, h⟩ := bindo h
    refine qN rfl (ok_store_arr · sz61 (.tmp rfl) rfl (.tmp rfl) hg5 hp6) ?_
    refine hr_region_end ?_
    try dsimp only [w0, w1, w2, w3]
    refine q_seq rfl ?_
    refine q_seq rfl ?_
    refine q_region rfl rfl ?_
    refine qS 22 rfl (ok_move · (.tmp rfl)) ?_
    refine qS 23 rfl (ok_len_str · rfl tu9 (.tmp rfl)) ?_
    refine qS 24 rfl (ok_move · (.int _ _)) ?_
    refine hr_region_end ?_
    try dsimp only [w0, w1, w2, w3]
    refine q_block rfl ?_
    refine q_loop rfl ?_
    try dsimp only [w0, w1, w2, w3]
    exact L1_snd  h
def f (k : Nat) (x0 : (List UInt8)) (x1 : Int) (x2 : Int) (x3 : Int) (S : HS) : Option ((Bool) × HS) :=
  (if (List.length x0 : Int) < x1 then
  J0 k x0 x3 true S else
  J0 k x0 x3 (decide ((List.length x0 : Int) > x2)) S)
theorem snd {k : Nat} {x0 : (List UInt8)} {x1 : Int} {x2 : Int} {x3 : Int} {S : HS}  {p : (Bool) × HS} (h : f k x0 x1 x2 x3 S = some p) : HCall Try.prog base W0 β0 28 [(.str x0), (.int .i64 x1), (.int .i64 x2), (.int .u16 x3)] S (fun v S1 => v = (.bool p.1) ∧ S1 = p.2) := by
  unfold f at h
  refine HCall.of_run at_.at_ body ?_
  show HRun Try.prog base W0 β0 28 none [.code c0] ⟨[(.str x0), (.int .i64 x1), (.int .i64 x2), (.int .u16 x3), τ, τ, τ, τ, τ, τ, τ, τ, τ, τ, τ, τ, τ, τ, τ, τ, τ, τ, τ, τ, τ, τ, τ, τ, τ, τ, τ, τ, τ, τ, τ, τ], []⟩ S _
  refine q_seq rfl ?_
  refine q_region rfl rfl ?_
  refine qS 8 rfl (ok_assign · (.bool _)) ?_
  refine hr_region_end ?_
  try dsimp only [w0, w1, w2, w3]
  refine q_seq rfl ?_
  refine q_seq rfl ?_
  refine q_region rfl rfl ?_
  refine qS 11 rfl (ok_move · (.tmp rfl)) ?_
  refine qS 12 rfl (ok_len_str · rfl tu9 (.tmp rfl)) ?_
  refine qS 13 rfl (ok_move · (.tmp rfl)) ?_
  refine qS 14 rfl (ok_ibin · (.tmp rfl) (.tmp rfl) rfl) ?_
  try dsimp only [w0, w1, w2, w3]
  refine qS 15 rfl (ok_move · (.tmp rfl)) ?_
  rcases ifc h with ⟨hc1, h⟩ | ⟨hc1, h⟩
  · refine q_skip (dst := some 16) (t := 15) rfl rfl rfl (decide_eq_true hc1) ?_
    refine q_skip (dst := some 17) (t := 15) rfl rfl rfl (decide_eq_true hc1) ?_
    refine q_skip (dst := some 18) (t := 15) rfl rfl rfl (decide_eq_true hc1) ?_
    try dsimp only [w0, w1, w2, w3]
    refine q_skip (dst := some 19) (t := 15) rfl rfl rfl (decide_eq_true hc1) ?_
    refine qS 20 rfl (ok_pick_tt · (.tmp rfl) (decide_eq_true hc1) (.bool _)) ?_
    refine hr_region_end ?_
    try dsimp only [w0, w1, w2, w3]
    try dsimp only [w0, w1, w2, w3]
    exact J0_snd  h
  · refine qG 15 16 rfl (decide_eq_false hc1) (ok_move · (.tmp rfl)) ?_
    refine qG 15 17 rfl (decide_eq_false hc1) (ok_len_str · rfl tu9 (.tmp rfl)) ?_
    refine qG 15 18 rfl (decide_eq_false hc1) (ok_move · (.tmp rfl)) ?_
    try dsimp only [w0, w1, w2, w3]
    refine qG 15 19 rfl (decide_eq_false hc1) (ok_ibin · (.tmp rfl) (.tmp rfl) rfl) ?_
    refine qS 20 rfl (ok_pick_ff · (.tmp rfl) (decide_eq_false hc1) (.tmp rfl)) ?_
    refine hr_region_end ?_
    try dsimp only [w0, w1, w2, w3]
    try dsimp only [w0, w1, w2, w3]
    exact J0_snd  h
end
end valid_all
namespace valid_Text
theorem at_ : FnAt Try.prog 22 Try.f22 := ⟨Try.func22, by kernel_rfl⟩
noncomputable def d0 := (Try.f22.body).getD .skip
noncomputable def r1 := kR (kA d0)
noncomputable def r3 := kR (kA (kB d0))
noncomputable def c0 : Code := .seq (.region 0 r1 false) (.seq (.region 1 r3 false) .ret)
theorem body : Try.f22.body = some c0 := by kernel_rfl
section
variable {base : Nat} {W0 : World} {β0 : Bt}
def f (k : Nat) (x0 : (List UInt8)) (S : HS) : Option ((Bool) × HS) :=
  (Option.bind (valid_all.f k x0 0 (List.length x0 : Int) 64 S) fun p1 =>
  some (p1.1, p1.2))
theorem snd {k : Nat} {x0 : (List UInt8)} {S : HS}  {p : (Bool) × HS} (h : f k x0 S = some p) : HCall Try.prog base W0 β0 22 [(.str x0)] S (fun v S1 => v = (.bool p.1) ∧ S1 = p.2) := by
  unfold f at h
  refine HCall.of_run at_.at_ body ?_
  show HRun Try.prog base W0 β0 22 none [.code c0] ⟨[(.str x0), τ, τ, τ, τ, τ, τ], []⟩ S _
  refine q_seq rfl ?_
  refine q_region rfl rfl ?_
  refine qS 2 rfl (ok_assign · (.bool _)) ?_
  refine hr_region_end ?_
  try dsimp only [w0, w1, w2, w3]
  refine q_seq rfl ?_
  refine q_region rfl rfl ?_
  refine qS 3 rfl (ok_move · (.tmp rfl)) ?_
  refine qS 4 rfl (ok_move · (.tmp rfl)) ?_
  refine qS 5 rfl (ok_len_str · rfl tu9 (.tmp rfl)) ?_
  obtain ⟨p1, hp1, h⟩ := bindo h
  refine q_call (dst := some 6) rfl (.func _) (.cons (.tmp rfl) (.cons (.int _ _) (.cons (.tmp rfl) (.cons (.int _ _) Evs.nil)))) (HInv.static valid_all.at_ valid_all.body (valid_all.snd  hp1)) ?_
  rintro _ _ ⟨rfl, rfl⟩
  try dsimp only [w0, w1, w2, w3]
  refine qS 2 rfl (ok_assign · (.tmp rfl)) ?_
  refine hr_region_end ?_
  try dsimp only [w0, w1, w2, w3]
  cases h
  exact q_ret rfl at_.at_ rfl (res1 rfl rfl) ⟨rfl, rfl⟩
end
end valid_Text
namespace sendq_Queue_Push
theorem at_ : FnAt Try.prog 10 Try.f10 := ⟨Try.func10, by kernel_rfl⟩
noncomputable def d0 := (Try.f10.body).getD .skip
noncomputable def r1 := kR (kA d0)
noncomputable def r4 := kR (kA (kA (kB d0)))
noncomputable def r7 := kR (kA (kA (kB (kA (kB d0)))))
noncomputable def r12 := kR (kA (kA (kB (kB d0))))
noncomputable def d14 := kA (kB (kA (kB (kB d0))))
noncomputable def r15 := kR (kA d14)
noncomputable def r17 := kR (kA (kB d14))
noncomputable def r21 := kR (kA (kB (kB (kB d0))))
noncomputable def r23 := kR (kA (kB (kB (kB (kB d0)))))
noncomputable def r25 := kR (kA (kB (kB (kB (kB (kB d0))))))
noncomputable def c10 : Code := .seq (.seq (.region 3 r12 true) (.cond (.tmp 36) (.seq (.region 4 r15 false) (.seq (.region 5 r17 false) .ret)) .skip)) (.seq (.region 6 r21 false) (.seq (.region 7 r23 false) (.seq (.region 8 r25 false) .ret)))
noncomputable def c5 : Code := .cond (.tmp 22) (.seq (.region 2 r7 false) .ret) .skip
noncomputable def c0 : Code := .seq (.region 0 r1 false) (.seq (.seq (.region 1 r4 false) c5) c10)
theorem body : Try.f10.body = some c0 := by kernel_rfl
section
variable {base : Nat} {W0 : World} {β0 : Bt}
def J2 (k : Nat) (y0 : (Option HA)) (y1 : (List UInt8)) (y22 : Bool) (S : HS) : Option ((Bool) × HS) :=
  (if y22 = true then
  some (false, S) else
  (Option.bind (y0) fun p5 =>
  (Option.bind (HS.ldSl S (HA.fld p5 1)) fun p6 =>
  (Option.bind (y0) fun p7 =>
  (Option.bind (HS.ldI S .i64 (HA.fld p7 0)) fun p8 =>
  (if (w64 ((w64 ((Sl.len p6 : Int) + (List.length y1 : Int))) + 2)) > p8 then
  (Option.bind (y0) fun p10 =>
  (Option.bind (HS.sets S (HA.fld p10 4) [(.bool true)]) fun p11 =>
  some (false, p11))) else
  (Option.bind (y0) fun p12 =>
  (Option.bind (HS.ldSl S (HA.fld p12 1)) fun p13 =>
  (Option.bind (HS.app S p13 (bytesRows y1) 1) fun p14 =>
  (Option.bind (y0) fun p15 =>
  (Option.bind (HS.sets (p14.2) (HA.fld p15 1) [(Sl.hv (p14.1))]) fun p16 =>
  (Option.bind (y0) fun p17 =>
  (Option.bind (HS.ldSl p16 (HA.fld p17 1)) fun p18 =>
  (Option.bind (HS.app p16 p18 (bytesRows ([13, 10] : List UInt8)) 1) fun p19 =>
  (Option.bind (y0) fun p20 =>
  (Option.bind (HS.sets (p19.2) (HA.fld p20 1) [(Sl.hv (p19.1))]) fun p21 =>
  some (true, p21)))))))))))))))))
theorem J2_snd {k : Nat}  {y0 : (Option HA)} {y1 : (List UInt8)} {y22 : Bool} {S : HS} {p : (Bool) × HS} {g2 g3 g4 g5 g6 g7 g8 g9 g10 g11 g12 g13 g14 g15 g16 g17 g18 g19 g20 g21 g23 g24 g25 g26 g27 g28 g29 g30 g31 g32 g33 g34 g35 g36 g37 g38 g39 g40 g41 g42 g43 g44 g45 g46 g47 g48 g49 g50 g51 g52 g53 g54 g55 g56 : HV} (h : J2 k y0 y1 y22 S = some p) : HRun Try.prog base W0 β0 10 none [.code c5, .code c10] ⟨[(.ptr y0), (.str y1), g2, g3, g4, g5, g6, g7, g8, g9, g10, g11, g12, g13, g14, g15, g16, g17, g18, g19, g20, g21, (.bool y22), g23, g24, g25, g26, g27, g28, g29, g30, g31, g32, g33, g34, g35, g36, g37, g38, g39, g40, g41, g42, g43, g44, g45, g46, g47, g48, g49, g50, g51, g52, g53, g54, g55, g56], []⟩ S (fun v S1 => v = (.bool p.1) ∧ S1 = p.2) := by
  unfold J2 at h
  rcases ifc h with ⟨hc4, h⟩ | ⟨hc4, h⟩
  · refine q_cond_t rfl (.tmp rfl) hc4 ?_
    refine q_seq rfl ?_
    refine q_region rfl rfl ?_
    refine qS 4 rfl (ok_assign · (.bool _)) ?_
    refine hr_region_end ?_
    try dsimp only [w0, w1, w2, w3]
    cases h
    exact q_ret rfl at_.at_ rfl (res1 rfl rfl) ⟨rfl, rfl⟩
  · refine q_cond_f rfl (.tmp rfl) (bfalse hc4) ?_
    refine q_skipc rfl ?_
    refine q_seq rfl ?_
    refine q_seq rfl ?_
    refine x_start (cls := [0, 0, 0, 1, 0, 0, 0, 0, 0, 0, 0, 0, 1, 0]) (rk := [0, 1, 2, 3, 4, 5, 6, 7, 8, 9, 10, 11, 12, 13]) rfl (by kernel_rfl) ?_
    refine yf 23 [0] rfl (ok_move · (.tmp rfl)) ?_
    obtain ⟨p5, hp5, h⟩ := bindo h
    refine yf 24 [23] rfl (ok_nilCheck_p · (.tmp rfl) hp5) ?_
    refine yf 25 [24] rfl (ok_fieldAddr_s · fi53_1 (by decide) (.tmp rfl) rfl) ?_
    obtain ⟨p6, hp6, h⟩ := bindo h
    refine yr 26 [25] rfl (ok_load_s · sc31 (.tmp rfl) rfl (ldSl_out hp6)) ?_
    try dsimp only [w0, w1, w2, w3]
    refine yf 27 [26] rfl (ok_len_sl (q := Sl.a p6) (n := Sl.len p6) (z := Sl.cap p6) · rfl tu31 (.tmp rfl)) ?_
    refine yf 28 [1] rfl (ok_move · (.tmp rfl)) ?_
    refine yf 29 [28] rfl (ok_len_str · rfl tu9 (.tmp rfl)) ?_
    refine yf 30 [27, 29] rfl (ok_ibin · (.tmp rfl) (.tmp rfl) rfl) ?_
    try dsimp only [w0, w1, w2, w3]
    refine yf 31 [30] rfl (ok_ibin · (.tmp rfl) (.int _ _) rfl) ?_
    refine yf 32 [0] rfl (ok_move · (.tmp rfl)) ?_
    obtain ⟨p7, hp7, h⟩ := bindo h
    refine yf 33 [32] rfl (ok_nilCheck_p · (.tmp rfl) hp7) ?_
    refine yf 34 [33] rfl (ok_fieldAddr_s · fi53_0 (by decide) (.tmp rfl) rfl) ?_
    try dsimp only [w0, w1, w2, w3]
    obtain ⟨p8, hp8, h⟩ := bindo h
    refine yr 35 [34] rfl (ok_load_s · sc3 (.tmp rfl) rfl (ldI_out hp8)) ?_
    refine yf 36 [31, 35] rfl (ok_ibin · (.tmp rfl) (.tmp rfl) rfl) ?_
    refine x_rest rfl ?_
    refine hr_region_end ?_
    try dsimp only [w0, w1, w2, w3]
    rcases ifc h with ⟨hc9, h⟩ | ⟨hc9, h⟩
    · refine q_cond_t rfl (.tmp rfl) (decide_eq_true hc9) ?_
      refine q_seq rfl ?_
      refine q_region rfl rfl ?_
      refine qS 37 rfl (ok_move · (.tmp rfl)) ?_
      obtain ⟨p10, hp10, h⟩ := bindo h
      refine qS 38 rfl (ok_nilCheck_p · (.tmp rfl) hp10) ?_
      refine qS 39 rfl (ok_fieldAddr_s · fi53_4 (by decide) (.tmp rfl) rfl) ?_
      obtain ⟨p11, hp11, h⟩ := bindo h
      refine qN rfl (ok_store_s (v := (.bool true)) · sz4 (.tmp rfl) rfl (.bool _) rfl hp11) ?_
      refine hr_region_end ?_
      try dsimp only [w0, w1, w2, w3]
      refine q_seq rfl ?_
      refine q_region rfl rfl ?_
      refine qS 4 rfl (ok_assign · (.bool _)) ?_
      refine hr_region_end ?_
      try dsimp only [w0, w1, w2, w3]
      cases h
      exact q_ret rfl at_.at_ rfl (res1 rfl rfl) ⟨rfl, rfl⟩
    · refine q_cond_f rfl (.tmp rfl) (decide_eq_false hc9) ?_
      refine q_skipc rfl ?_
      refine q_seq rfl ?_
      refine q_region rfl rfl ?_
      refine qS 40 rfl (ok_move · (.tmp rfl)) ?_
      refine qS 41 rfl (ok_move · (.tmp rfl)) ?_
      obtain ⟨p12, hp12, h⟩ := bindo h
      refine qS 42 rfl (ok_nilCheck_p · (.tmp rfl) hp12) ?_
      refine qS 43 rfl (ok_fieldAddr_s · fi53_1 (by decide) (.tmp rfl) rfl) ?_
      try dsimp only [w0, w1, w2, w3]
      obtain ⟨p13, hp13, h⟩ := bindo h
      refine qS 44 rfl (ok_load_s · sc31 (.tmp rfl) rfl (ldSl_out hp13)) ?_
      refine qS 45 rfl (ok_move · (.tmp rfl)) ?_
      obtain ⟨p14, hp14, h⟩ := bindo h
      refine qS 46 rfl (ok_append_str (s := p13) el31 · rfl rfl tu9 (.tmp rfl) (.tmp rfl) hp14) ?_
      obtain ⟨p15, hp15, h⟩ := bindo h
      refine qS 47 rfl (ok_nilCheck_p · (.tmp rfl) hp15) ?_
      try dsimp only [w0, w1, w2, w3]
      refine qS 48 rfl (ok_fieldAddr_s · fi53_1 (by decide) (.tmp rfl) rfl) ?_
      obtain ⟨p16, hp16, h⟩ := bindo h
      refine qN rfl (ok_store_s (v := (Sl.hv (p14.1))) · sz31 (.tmp rfl) rfl (.tmp rfl) rfl hp16) ?_
      refine hr_region_end ?_
      try dsimp only [w0, w1, w2, w3]
      refine q_seq rfl ?_
      refine q_region rfl rfl ?_
      refine qS 49 rfl (ok_move · (.tmp rfl)) ?_
      refine qS 50 rfl (ok_move · (.tmp rfl)) ?_
      obtain ⟨p17, hp17, h⟩ := bindo h
      refine qS 51 rfl (ok_nilCheck_p · (.tmp rfl) hp17) ?_
      refine qS 52 rfl (ok_fieldAddr_s · fi53_1 (by decide) (.tmp rfl) rfl) ?_
      try dsimp only [w0, w1, w2, w3]
      obtain ⟨p18, hp18, h⟩ := bindo h
      refine qS 53 rfl (ok_load_s · sc31 (.tmp rfl) rfl (ldSl_out hp18)) ?_
      obtain ⟨p19, hp19, h⟩ := bindo h
      refine qS 54 rfl (ok_append_str (s := p18) el31 · rfl rfl tu9 (.tmp rfl) (.str _) hp19) ?_
      obtain ⟨p20, hp20, h⟩ := bindo h
      refine qS 55 rfl (ok_nilCheck_p · (.tmp rfl) hp20) ?_
      refine qS 56 rfl (ok_fieldAddr_s · fi53_1 (by decide) (.tmp rfl) rfl) ?_
      try dsimp only [w0, w1, w2, w3]
      obtain ⟨p21, hp21, h⟩ := bindo h
      refine qN rfl (ok_store_s (v := (Sl.hv (p19.1))) · sz31 (.tmp rfl) rfl (.tmp rfl) rfl hp21) ?_
      refine hr_region_end ?_
      try dsimp only [w0, w1, w2, w3]
      refine q_seq rfl ?_
      refine q_region rfl rfl ?_
      refine qS 4 rfl (ok_assign · (.bool _)) ?_
      refine hr_region_end ?_
      try dsimp only [w0, w1, w2, w3]
      cases h
      exact q_ret rfl at_.at_ rfl (res1 rfl rfl) ⟨rfl, rfl⟩
def J1 (k : Nat) (y0 : (Option HA)) (y1 : (List UInt8)) (y17 : Bool) (S : HS) : Option ((Bool) × HS) :=
  (if y17 = true then
  J2 k y0 y1 true S else
  (Option.bind (valid_Text.f k y1 S) fun p22 =>
  J2 k y0 y1 (!p22.1) p22.2))
theorem J1_snd {k : Nat}  {y0 : (Option HA)} {y1 : (List UInt8)} {y17 : Bool} {S : HS} {p : (Bool) × HS} {g2 g3 g4 g5 g6 g7 g8 g9 g10 g11 g12 g13 g14 g15 g16 g18 g19 g20 g21 g22 g23 g24 g25 g26 g27 g28 g29 g30 g31 g32 g33 g34 g35 g36 g37 g38 g39 g40 g41 g42 g43 g44 g45 g46 g47 g48 g49 g50 g51 g52 g53 g54 g55 g56 : HV} (h : J1 k y0 y1 y17 S = some p) : HRun Try.prog base W0 β0 10 none [.inRegion r4 [13, 14, 15, 16, 17], .code c5, .code c10] ⟨[(.ptr y0), (.str y1), g2, g3, g4, g5, g6, g7, g8, g9, g10, g11, g12, g13, g14, g15, g16, (.bool y17), g18, g19, g20, g21, g22, g23, g24, g25, g26, g27, g28, g29, g30, g31, g32, g33, g34, g35, g36, g37, g38, g39, g40, g41, g42, g43, g44, g45, g46, g47, g48, g49, g50, g51, g52, g53, g54, g55, g56], []⟩ S (fun v S1 => v = (.bool p.1) ∧ S1 = p.2) := by
  unfold J1 at h
  refine qS 18 rfl (ok_move · (.tmp rfl)) ?_
  rcases ifc h with ⟨hc3, h⟩ | ⟨hc3, h⟩
  · refine q_skip (dst := some 19) (t := 18) rfl rfl rfl hc3 ?_
    refine q_skip (dst := some 20) (t := 18) rfl rfl rfl hc3 ?_
    try dsimp only [w0, w1, w2, w3]
    refine q_skip (dst := some 21) (t := 18) rfl rfl rfl hc3 ?_
    refine qS 22 rfl (ok_pick_tt · (.tmp rfl) hc3 (.bool _)) ?_
    refine hr_region_end ?_
    try dsimp only [w0, w1, w2, w3]
    try dsimp only [w0, w1, w2, w3]
    exact J2_snd  h
  · refine qG 18 19 rfl (bfalse hc3) (ok_move · (.tmp rfl)) ?_
    obtain ⟨p22, hp22, h⟩ := bindo h
    refine q_call_g (t := 18) (dst := some 20) rfl rfl rfl (bfalse hc3) (.func _) (.cons (.tmp rfl) Evs.nil) (HInv.static valid_Text.at_ valid_Text.body (valid_Text.snd  hp22)) ?_
    rintro _ _ ⟨rfl, rfl⟩
    try dsimp only [w0, w1, w2, w3]
    refine qG 18 21 rfl (bfalse hc3) (ok_not · (.tmp rfl)) ?_
    refine qS 22 rfl (ok_pick_ff · (.tmp rfl) (bfalse hc3) (.tmp rfl)) ?_
    refine hr_region_end ?_
    try dsimp only [w0, w1, w2, w3]
    try dsimp only [w0, w1, w2, w3]
    exact J2_snd  h
def J0 (k : Nat) (y0 : (Option HA)) (y1 : (List UInt8)) (y12 : Bool) (S : HS) : Option ((Bool) × HS) :=
  (if y12 = true then
  J1 k y0 y1 true S else
  J1 k y0 y1 (decide ((List.length y1 : Int) > 510)) S)
theorem J0_snd {k : Nat}  {y0 : (Option HA)} {y1 : (List UInt8)} {y12 : Bool} {S : HS} {p : (Bool) × HS} {g2 g3 g4 g5 g6 g7 g8 g9 g10 g11 g13 g14 g15 g16 g17 g18 g19 g20 g21 g22 g23 g24 g25 g26 g27 g28 g29 g30 g31 g32 g33 g34 g35 g36 g37 g38 g39 g40 g41 g42 g43 g44 g45 g46 g47 g48 g49 g50 g51 g52 g53 g54 g55 g56 : HV} (h : J0 k y0 y1 y12 S = some p) : HRun Try.prog base W0 β0 10 none [.inRegion r4 [8, 9, 10, 11, 12, 13, 14, 15, 16, 17], .code c5, .code c10] ⟨[(.ptr y0), (.str y1), g2, g3, g4, g5, g6, g7, g8, g9, g10, g11, (.bool y12), g13, g14, g15, g16, g17, g18, g19, g20, g21, g22, g23, g24, g25, g26, g27, g28, g29, g30, g31, g32, g33, g34, g35, g36, g37, g38, g39, g40, g41, g42, g43, g44, g45, g46, g47, g48, g49, g50, g51, g52, g53, g54, g55, g56], []⟩ S (fun v S1 => v = (.bool p.1) ∧ S1 = p.2) := by
  unfold J0 at h
  refine qS 13 rfl (ok_move · (.tmp rfl)) ?_
  rcases ifc h with ⟨hc2, h⟩ | ⟨hc2, h⟩
  · refine q_skip (dst := some 14) (t := 13) rfl rfl rfl hc2 ?_
    refine q_skip (dst := some 15) (t := 13) rfl rfl rfl hc2 ?_
    refine q_skip (dst := some 16) (t := 13) rfl rfl rfl hc2 ?_
    try dsimp only [w0, w1, w2, w3]
    refine qS 17 rfl (ok_pick_tt · (.tmp rfl) hc2 (.bool _)) ?_
    try dsimp only [w0, w1, w2, w3]
    exact J1_snd  h
  · refine qG 13 14 rfl (bfalse hc2) (ok_move · (.tmp rfl)) ?_
    refine qG 13 15 rfl (bfalse hc2) (ok_len_str · rfl tu9 (.tmp rfl)) ?_
    refine qG 13 16 rfl (bfalse hc2) (ok_ibin · (.tmp rfl) (.int _ _) rfl) ?_
    try dsimp only [w0, w1, w2, w3]
    refine qS 17 rfl (ok_pick_ff · (.tmp rfl) (bfalse hc2) (.tmp rfl)) ?_
    try dsimp only [w0, w1, w2, w3]
    exact J1_snd  h
def f (k : Nat) (x0 : (Option HA)) (x1 : (List UInt8)) (S : HS) : Option ((Bool) × HS) :=
  (if (Option.isNone x0) = true then
  J0 k x0 x1 true S else
  (Option.bind (x0) fun p23 =>
  (Option.bind (HS.ldB S (HA.fld p23 4)) fun p24 =>
  J0 k x0 x1 p24 S)))
theorem snd {k : Nat} {x0 : (Option HA)} {x1 : (List UInt8)} {S : HS}  {p : (Bool) × HS} (h : f k x0 x1 S = some p) : HCall Try.prog base W0 β0 10 [(.ptr x0), (.str x1)] S (fun v S1 => v = (.bool p.1) ∧ S1 = p.2) := by
  unfold f at h
  refine HCall.of_run at_.at_ body ?_
  show HRun Try.prog base W0 β0 10 none [.code c0] ⟨[(.ptr x0), (.str x1), τ, τ, τ, τ, τ, τ, τ, τ, τ, τ, τ, τ, τ, τ, τ, τ, τ, τ, τ, τ, τ, τ, τ, τ, τ, τ, τ, τ, τ, τ, τ, τ, τ, τ, τ, τ, τ, τ, τ, τ, τ, τ, τ, τ, τ, τ, τ, τ, τ, τ, τ, τ, τ, τ, τ], []⟩ S _
  refine q_seq rfl ?_
  refine q_region rfl rfl ?_
  refine qS 4 rfl (ok_assign · (.bool _)) ?_
  refine hr_region_end ?_
  try dsimp only [w0, w1, w2, w3]
  refine q_seq rfl ?_
  refine q_seq rfl ?_
  refine q_region rfl rfl ?_
  refine qS 5 rfl (ok_move · (.tmp rfl)) ?_
  refine qS 6 rfl (ok_nil_ptr · tu25 (.tmp rfl) (.inl ⟨rfl, rfl⟩)) ?_
  refine qS 7 rfl (ok_move · (.tmp rfl)) ?_
  rcases ifc h with ⟨hc1, h⟩ | ⟨hc1, h⟩
  · refine q_skip (dst := some 8) (t := 7) rfl rfl rfl hc1 ?_
    try dsimp only [w0, w1, w2, w3]
    refine q_skip (dst := some 9) (t := 7) rfl rfl rfl hc1 ?_
    refine q_skip (dst := some 10) (t := 7) rfl rfl rfl hc1 ?_
    refine q_skip (dst := some 11) (t := 7) rfl rfl rfl hc1 ?_
    refine qS 12 rfl (ok_pick_tt · (.tmp rfl) hc1 (.bool _)) ?_
    try dsimp only [w0, w1, w2, w3]
    try dsimp only [w0, w1, w2, w3]
    exact J0_snd  h
  · refine qG 7 8 rfl (bfalse hc1) (ok_move · (.tmp rfl)) ?_
    try dsimp only [w0, w1, w2, w3]
    obtain ⟨p23, hp23, h⟩ := bindo h
    refine qG 7 9 rfl (bfalse hc1) (ok_nilCheck_p · (.tmp rfl) hp23) ?_
    refine qG 7 10 rfl (bfalse hc1) (ok_fieldAddr_s · fi53_4 (by decide) (.tmp rfl) rfl) ?_
    obtain ⟨p24, hp24, h⟩ := bindo h
    refine qG 7 11 rfl (bfalse hc1) (ok_load_s · sc4 (.tmp rfl) rfl (ldB_out hp24)) ?_
    refine qS 12 rfl (ok_pick_ff · (.tmp rfl) (bfalse hc1) (.tmp rfl)) ?_
    try dsimp only [w0, w1, w2, w3]
    try dsimp only [w0, w1, w2, w3]
    exact J0_snd  h
end
end sendq_Queue_Push
namespace sendq_torn
theorem at_ : FnAt Try.prog 21 Try.f21 := ⟨Try.func21, by kernel_rfl⟩
noncomputable def d0 := (Try.f21.body).getD .skip
noncomputable def r1 := kR (kA d0)
noncomputable def r4 := kR (kA (kA (kB d0)))
noncomputable def r7 := kR (kA (kA (kB (kA (kB d0)))))
noncomputable def r11 := kR (kA (kB (kB d0)))
noncomputable def d12 := kB (kB (kB d0))
noncomputable def r14 := kR (kA (kA d12))
noncomputable def d16 := kA (kB (kA d12))
noncomputable def r19 := kR (kA (kA (kA d16)))
noncomputable def d24 := kA (kB (kA d16))
noncomputable def r27 := kR (kA (kA (kA d24)))
noncomputable def r30 := kR (kA (kA (kB (kA (kA d24)))))
noncomputable def r34 := kR (kA (kB (kA d24)))
noncomputable def r37 := kR (kA (kA (kB (kB (kA d24)))))
noncomputable def r42 := kR (kA (kB (kB (kB (kA d24)))))
noncomputable def r45 := kR (kA (kA (kB (kB (kB (kB (kA d24)))))))
noncomputable def r48 := kR (kB (kB (kA d16)))
noncomputable def r50 := kR (kA (kB d12))
noncomputable def c49 : Code := .seq (.region 13 r50 false) .ret
noncomputable def c48 : Code := .region 6 r48 false
noncomputable def c17 : Code := .seq (.seq (.region 5 r19 false) (.cond (.tmp 22) .skip (.exit 0))) (.seq (.block 1 (.seq (.seq (.region 7 r27 false) (.cond (.tmp 26) (.seq (.region 8 r30 false) .ret) .skip)) (.seq (.region 9 r34 false) (.seq (.seq (.region 10 r37 false) (.cond (.tmp 33) (.exit 1) .skip)) (.seq (.region 11 r42 false) (.cond (.tmp 35) (.seq (.region 12 r45 false) .ret) .skip)))))) c48)
noncomputable def c0 : Code := .seq (.region 0 r1 false) (.seq (.seq (.region 1 r4 false) (.cond (.tmp 11) (.seq (.region 2 r7 false) .ret) .skip)) (.seq (.region 3 r11 false) (.seq (.seq (.region 4 r14 false) (.block 0 (.loop c17))) c49)))
theorem body : Try.f21.body = some c0 := by kernel_rfl
section
variable {base : Nat} {W0 : World} {β0 : Bt}
def J1 (k : Nat) (rec0 : Sl → Int → Int → HS → Option ((Int) × HS)) (y0 : Sl) (y7 : Int) (y8 : Int) (S : HS) : Option ((Int) × HS) :=
  rec0 y0 y7 (w64 (y8 + 1)) S
theorem J1_snd {k : Nat} {rec0 : Sl → Int → Int → HS → Option ((Int) × HS)} (hrec0 : ∀ ⦃y0 : Sl⦄ ⦃y7 : Int⦄ ⦃y8 : Int⦄ ⦃S : HS⦄ ⦃p : (Int) × HS⦄ ⦃g1 g2 g3 g4 g5 g6 g9 g10 g11 g12 g13 g14 g15 g16 g17 g18 g19 g20 g21 g22 g23 g24 g25 g26 g27 g28 g29 g30 g31 g32 g33 g34 g35 g36 g37 g38 g39 g40 g41 g42 : HV⦄, rec0 y0 y7 y8 S = some p → HRun Try.prog base W0 β0 21 none [.inLoop c17, .inBlock 0, .code c49] ⟨[(Sl.hv y0), g1, g2, g3, g4, g5, g6, (.int .i64 y7), (.int .i64 y8), g9, g10, g11, g12, g13, g14, g15, g16, g17, g18, g19, g20, g21, g22, g23, g24, g25, g26, g27, g28, g29, g30, g31, g32, g33, g34, g35, g36, g37, g38, g39, g40, g41, g42], []⟩ S (fun v S1 => v = (.int .i64 p.1) ∧ S1 = p.2)) {y0 : Sl} {y7 : Int} {y8 : Int} {S : HS} {p : (Int) × HS} {g1 g2 g3 g4 g5 g6 g9 g10 g11 g12 g13 g14 g15 g16 g17 g18 g19 g20 g21 g22 g23 g24 g25 g26 g27 g28 g29 g30 g31 g32 g33 g34 g35 g36 g37 g38 g39 g40 g41 g42 : HV} (h : J1 k rec0 y0 y7 y8 S = some p) : HRun Try.prog base W0 β0 21 none [.code c48, .inLoop c17, .inBlock 0, .code c49] ⟨[(Sl.hv y0), g1, g2, g3, g4, g5, g6, (.int .i64 y7), (.int .i64 y8), g9, g10, g11, g12, g13, g14, g15, g16, g17, g18, g19, g20, g21, g22, g23, g24, g25, g26, g27, g28, g29, g30, g31, g32, g33, g34, g35, g36, g37, g38, g39, g40, g41, g42], []⟩ S (fun v S1 => v = (.int .i64 p.1) ∧ S1 = p.2) := by
  unfold J1 at h
  refine q_region rfl rfl ?_
  refine qS 23 rfl (ok_move · (.tmp rfl)) ?_
  refine qS 24 rfl (ok_ibin · (.tmp rfl) (.int _ _) rfl) ?_
  refine qS 8 rfl (ok_assign · (.tmp rfl)) ?_
  refine hr_region_end ?_
  try dsimp only [w0, w1, w2, w3]
  try dsimp only [w0, w1, w2, w3]
  exact hrec0 h
def L0 (k : Nat) : Nat → Sl → Int → Int → HS → Option ((Int) × HS)
  | 0, _, _, _, _ => none
  | n + 1, y0, y7, y8, S =>
    (if y8 < (Sl.len y0 : Int) then
    (if y7 = 0 then
    some (0, S) else
    (Option.bind (HS.idx S y0 y8 1) fun p4 =>
    (Option.bind (HS.ldI S .u8 p4) fun p5 =>
    (if p5 = 10 then
    J1 k (L0 k n) y0 (w64 (y7 - 1)) y8 S else
    (if (w64 (y7 - 1)) = 0 then
    (Option.bind (HS.cut S y0 (w64 (y8 + 1)) (Sl.len y0 : Int) 1) fun p8 =>
    (Option.bind (HS.text S p8) fun p9 =>
    (Option.bind (strings_IndexByte.f p9 10) fun p10 =>
    some ((w64 (p10 + 1)), S)))) else
    J1 k (L0 k n) y0 (w64 (y7 - 1)) y8 S))))) else
    some (0, S))
theorem L0_snd {k : Nat}  : ∀ {n : Nat} ⦃y0 : Sl⦄ ⦃y7 : Int⦄ ⦃y8 : Int⦄ ⦃S : HS⦄ ⦃p : (Int) × HS⦄ ⦃g1 g2 g3 g4 g5 g6 g9 g10 g11 g12 g13 g14 g15 g16 g17 g18 g19 g20 g21 g22 g23 g24 g25 g26 g27 g28 g29 g30 g31 g32 g33 g34 g35 g36 g37 g38 g39 g40 g41 g42 : HV⦄, L0 k n y0 y7 y8 S = some p → HRun Try.prog base W0 β0 21 none [.inLoop c17, .inBlock 0, .code c49] ⟨[(Sl.hv y0), g1, g2, g3, g4, g5, g6, (.int .i64 y7), (.int .i64 y8), g9, g10, g11, g12, g13, g14, g15, g16, g17, g18, g19, g20, g21, g22, g23, g24, g25, g26, g27, g28, g29, g30, g31, g32, g33, g34, g35, g36, g37, g38, g39, g40, g41, g42], []⟩ S (fun v S1 => v = (.int .i64 p.1) ∧ S1 = p.2) := by
  intro n
  induction n with
  | zero => intro _ _ _ _ _ _ _ _ _ _ _ _ _ _ _ _ _ _ _ _ _ _ _ _ _ _ _ _ _ _ _ _ _ _ _ _ _ _ _ _ _ _ _ _ _ h; cases h
  | succ n ih =>
    intro y0 y7 y8 S p g1 g2 g3 g4 g5 g6 g9 g10 g11 g12 g13 g14 g15 g16 g17 g18 g19 g20 g21 g22 g23 g24 g25 g26 g27 g28 g29 g30 g31 g32 g33 g34 g35 g36 g37 g38 g39 g40 g41 g42 h
    simp only [L0] at h
    refine hr_inLoop ?_
    refine q_seq rfl ?_
    refine q_seq rfl ?_
    refine q_region rfl rfl ?_
    refine qS 19 rfl (ok_move · (.tmp rfl)) ?_
    refine qS 20 rfl (ok_move · (.tmp rfl)) ?_
    refine qS 21 rfl (ok_len_sl (q := Sl.a y0) (n := Sl.len y0) (z := Sl.cap y0) · rfl tu31 (.tmp rfl)) ?_
    refine qS 22 rfl (ok_ibin · (.tmp rfl) (.tmp rfl) rfl) ?_
    refine hr_region_end ?_
    try dsimp only [w0, w1, w2, w3]
    rcases ifc h with ⟨hc2, h⟩ | ⟨hc2, h⟩
    · refine q_cond_t rfl (.tmp rfl) (decide_eq_true hc2) ?_
      refine q_skipc rfl ?_
      refine q_seq rfl ?_
      refine q_block rfl ?_
      refine q_seq rfl ?_
      refine q_seq rfl ?_
      refine q_region rfl rfl ?_
      refine qS 25 rfl (ok_move · (.tmp rfl)) ?_
      refine qS 26 rfl (ok_ibin · (.tmp rfl) (.int _ _) rfl) ?_
      refine hr_region_end ?_
      try dsimp only [w0, w1, w2, w3]
      rcases ifc h with ⟨hc3, h⟩ | ⟨hc3, h⟩
      · refine q_cond_t rfl (.tmp rfl) (decide_eq_true hc3) ?_
        refine q_seq rfl ?_
        refine q_region rfl rfl ?_
        refine qS 6 rfl (ok_assign · (.int _ _)) ?_
        refine hr_region_end ?_
        try dsimp only [w0, w1, w2, w3]
        cases h
        exact q_ret rfl at_.at_ rfl (res1 rfl rfl) ⟨rfl, rfl⟩
      · refine q_cond_f rfl (.tmp rfl) (decide_eq_false hc3) ?_
        refine q_skipc rfl ?_
        refine q_seq rfl ?_
        refine q_region rfl rfl ?_
        refine qS 27 rfl (ok_move · (.tmp rfl)) ?_
        refine qS 28 rfl (ok_ibin · (.tmp rfl) (.int _ _) rfl) ?_
        refine qS 7 rfl (ok_assign · (.tmp rfl)) ?_
        refine hr_region_end ?_
        try dsimp only [w0, w1, w2, w3]
        refine q_seq rfl ?_
        refine q_seq rfl ?_
        refine q_region rfl rfl ?_
        refine qS 29 rfl (ok_move · (.tmp rfl)) ?_
        refine qS 30 rfl (ok_move · (.tmp rfl)) ?_
        obtain ⟨p4, hp4, h⟩ := bindo h
        refine qS 31 rfl (ok_indexAddr (s := y0) · tu31 sz5 (.tmp rfl) (.tmp rfl) hp4) ?_
        obtain ⟨p5, hp5, h⟩ := bindo h
        refine qS 32 rfl (ok_load_s · sc5 (.tmp rfl) rfl (ldI_out hp5)) ?_
        try dsimp only [w0, w1, w2, w3]
        refine qS 33 rfl (ok_ibin · (.tmp rfl) (.int _ _) rfl) ?_
        refine hr_region_end ?_
        try dsimp only [w0, w1, w2, w3]
        rcases ifc h with ⟨hc6, h⟩ | ⟨hc6, h⟩
        · refine q_cond_t rfl (.tmp rfl) (decide_eq_true hc6) ?_
          refine q_exit rfl rfl ?_
          try dsimp only [w0, w1, w2, w3]
          exact J1_snd ih h
        · refine q_cond_f rfl (.tmp rfl) (decide_eq_false hc6) ?_
          refine q_skipc rfl ?_
          refine q_seq rfl ?_
          refine q_region rfl rfl ?_
          refine qS 34 rfl (ok_move · (.tmp rfl)) ?_
          refine qS 35 rfl (ok_ibin · (.tmp rfl) (.int _ _) rfl) ?_
          refine hr_region_end ?_
          try dsimp only [w0, w1, w2, w3]
          rcases ifc h with ⟨hc7, h⟩ | ⟨hc7, h⟩
          · refine q_cond_t rfl (.tmp rfl) (decide_eq_true hc7) ?_
            refine q_seq rfl ?_
            refine q_region rfl rfl ?_
            refine qS 36 rfl (ok_move · (.tmp rfl)) ?_
            refine qS 37 rfl (ok_move · (.tmp rfl)) ?_
            refine qS 38 rfl (ok_ibin · (.tmp rfl) (.int _ _) rfl) ?_
            obtain ⟨p8, hp8, h⟩ := bindo h
            refine qS 39 rfl (ok_slice (kl := .i64) (kh := .i64) (s := y0) (l := (w64 (y8 + 1))) (h := (Sl.len y0 : Int)) · tu31 si5 (.tmp rfl) (.inr ⟨_, rfl, (.tmp rfl)⟩) (.inl ⟨rfl, rfl⟩) hp8) ?_
            try dsimp only [w0, w1, w2, w3]
            obtain ⟨p9, hp9, h⟩ := bindo h
            refine qS 40 rfl (ok_str_of_bytes (s := p8) · tu31 tu5 tu9 (.tmp rfl) hp9) ?_
            obtain ⟨p10, hp10, h⟩ := bindo h
            refine q_call (dst := some 41) rfl (.func _) (.cons (.tmp rfl) (.cons (.int _ _) Evs.nil)) (HInv.static strings_IndexByte.at_ strings_IndexByte.body (strings_IndexByte.snd  hp10)) ?_
            rintro _ _ ⟨rfl, rfl⟩
            refine qS 42 rfl (ok_ibin · (.tmp rfl) (.int _ _) rfl) ?_
            refine qS 6 rfl (ok_assign · (.tmp rfl)) ?_
            refine hr_region_end ?_
            try dsimp only [w0, w1, w2, w3]
            cases h
            exact q_ret rfl at_.at_ rfl (res1 rfl rfl) ⟨rfl, rfl⟩
          · refine q_cond_f rfl (.tmp rfl) (decide_eq_false hc7) ?_
            refine q_skipc rfl ?_
            refine hr_inBlock ?_
            try dsimp only [w0, w1, w2, w3]
            exact J1_snd ih h
    · refine q_cond_f rfl (.tmp rfl) (decide_eq_false hc2) ?_
      refine q_exit rfl rfl ?_
      refine q_seq rfl ?_
      refine q_region rfl rfl ?_
      refine qS 6 rfl (ok_assign · (.int _ _)) ?_
      refine hr_region_end ?_
      try dsimp only [w0, w1, w2, w3]
      cases h
      exact q_ret rfl at_.at_ rfl (res1 rfl rfl) ⟨rfl, rfl⟩
def f (k : Nat) (x0 : Sl) (x1 : Int) (x2 : Int) (S : HS) : Option ((Int) × HS) :=
  (if x2 ≤ x1 then
  some ((w64 (x1 - x2)), S) else
  L0 k k x0 (w64 (x2 - x1)) x1 S)
theorem snd {k : Nat} {x0 : Sl} {x1 : Int} {x2 : Int} {S : HS}  {p : (Int) × HS} (h : f k x0 x1 x2 S = some p) : HCall Try.prog base W0 β0 21 [(Sl.hv x0), (.int .i64 x1), (.int .i64 x2)] S (fun v S1 => v = (.int .i64 p.1) ∧ S1 = p.2) := by
  unfold f at h
  refine HCall.of_run at_.at_ body ?_
  show HRun Try.prog base W0 β0 21 none [.code c0] ⟨[(Sl.hv x0), (.int .i64 x1), (.int .i64 x2), τ, τ, τ, τ, τ, τ, τ, τ, τ, τ, τ, τ, τ, τ, τ, τ, τ, τ, τ, τ, τ, τ, τ, τ, τ, τ, τ, τ, τ, τ, τ, τ, τ, τ, τ, τ, τ, τ, τ, τ], []⟩ S _
  refine q_seq rfl ?_
  refine q_region rfl rfl ?_
  refine qS 6 rfl (ok_assign · (.int _ _)) ?_
  refine hr_region_end ?_
  try dsimp only [w0, w1, w2, w3]
  refine q_seq rfl ?_
  refine q_seq rfl ?_
  refine q_region rfl rfl ?_
  refine qS 9 rfl (ok_move · (.tmp rfl)) ?_
  refine qS 10 rfl (ok_move · (.tmp rfl)) ?_
  refine qS 11 rfl (ok_ibin · (.tmp rfl) (.tmp rfl) rfl) ?_
  refine hr_region_end ?_
  try dsimp only [w0, w1, w2, w3]
  rcases ifc h with ⟨hc1, h⟩ | ⟨hc1, h⟩
  · refine q_cond_t rfl (.tmp rfl) (decide_eq_true hc1) ?_
    refine q_seq rfl ?_
    refine q_region rfl rfl ?_
    refine qS 12 rfl (ok_move · (.tmp rfl)) ?_
    refine qS 13 rfl (ok_move · (.tmp rfl)) ?_
    refine qS 14 rfl (ok_ibin · (.tmp rfl) (.tmp rfl) rfl) ?_
    refine qS 6 rfl (ok_assign · (.tmp rfl)) ?_
    refine hr_region_end ?_
    try dsimp only [w0, w1, w2, w3]
    cases h
    exact q_ret rfl at_.at_ rfl (res1 rfl rfl) ⟨rfl, rfl⟩
  · refine q_cond_f rfl (.tmp rfl) (decide_eq_false hc1) ?_
    refine q_skipc rfl ?_
    refine q_seq rfl ?_
    refine q_region rfl rfl ?_
    refine qS 15 rfl (ok_move · (.tmp rfl)) ?_
    refine qS 16 rfl (ok_move · (.tmp rfl)) ?_
    refine qS 17 rfl (ok_ibin · (.tmp rfl) (.tmp rfl) rfl) ?_
    refine qS 7 rfl (ok_assign · (.tmp rfl)) ?_
    refine hr_region_end ?_
    try dsimp only [w0, w1, w2, w3]
    refine q_seq rfl ?_
    refine q_seq rfl ?_
    refine q_region rfl rfl ?_
    refine qS 18 rfl (ok_move · (.tmp rfl)) ?_
    refine qS 8 rfl (ok_assign · (.tmp rfl)) ?_
    refine hr_region_end ?_
    try dsimp only [w0, w1, w2, w3]
    refine q_block rfl ?_
    refine q_loop rfl ?_
    try dsimp only [w0, w1, w2, w3]
    exact L0_snd  h
end
end sendq_torn
namespace sendq_Queue_Drain
theorem at_ : FnAt Try.prog 9 Try.f9 := ⟨Try.func9, by kernel_rfl⟩
noncomputable def d0 := (Try.f9.body).getD .skip
noncomputable def r1 := kR (kA d0)
noncomputable def r4 := kR (kA (kA (kB d0)))
noncomputable def r7 := kR (kA (kA (kB (kA (kB d0)))))
noncomputable def r11 := kR (kA (kB (kB d0)))
noncomputable def d12 := kB (kB (kB d0))
noncomputable def r13 := kR (kA d12)
noncomputable def r15 := kR (kA (kB d12))
noncomputable def r17 := kR (kA (kB (kB d12)))
noncomputable def r19 := kR (kA (kB (kB (kB d12))))
noncomputable def r21 := kR (kA (kB (kB (kB (kB d12)))))
noncomputable def r23 := kR (kA (kB (kB (kB (kB (kB d12))))))
noncomputable def c0 : Code := .seq (.region 0 r1 false) (.seq (.seq (.region 1 r4 false) (.cond (.tmp 7) (.seq (.region 2 r7 false) .ret) .skip)) (.seq (.region 3 r11 false) (.seq (.region 4 r13 false) (.seq (.region 5 r15 false) (.seq (.region 6 r17 true) (.seq (.region 7 r19 false) (.seq (.region 8 r21 false) (.seq (.region 9 r23 false) .ret))))))))
theorem body : Try.f9.body = some c0 := by kernel_rfl
section
variable {base : Nat} {W0 : World} {β0 : Bt}
def f (k : Nat) (x0 : (Option HA)) (x1 : Int) (S : HS) : Option ((Sl) × HS) :=
  (if (Option.isNone x0) = true then
  some (Sl.nil, S) else
  (Option.bind (x0) fun p2 =>
  (Option.bind (HS.ldSl S (HA.fld p2 1)) fun p3 =>
  (Option.bind (HS.make S (mx 0 (mn x1 (Sl.len p3 : Int))) (mx 0 (mn x1 (Sl.len p3 : Int))) [(.int .u8 0)]) fun p4 =>
  (Option.bind (x0) fun p5 =>
  (Option.bind (HS.ldSl (p4.2) (HA.fld p5 1)) fun p6 =>
  (Option.bind (HS.rows (p4.2) p6 1) fun p7 =>
  (Option.bind (HS.over (p4.2) (p4.1) (List.take (Sl.len (p4.1)) p7) 1) fun p8 =>
  (Option.bind (x0) fun p9 =>
  (Option.bind (HS.ldSl p8 (HA.fld p9 1)) fun p10 =>
  (Option.bind (x0) fun p11 =>
  (Option.bind (HS.ldI p8 .i64 (HA.fld p11 2)) fun p12 =>
  (Option.bind (sendq_torn.f k p10 p12 (mx 0 (mn x1 (Sl.len p3 : Int))) p8) fun p13 =>
  (Option.bind (x0) fun p14 =>
  (Option.bind (HS.sets p13.2 (HA.fld p14 2) [(.int .i64 p13.1)]) fun p15 =>
  (Option.bind (x0) fun p16 =>
  (Option.bind (HS.ldSl p15 (HA.fld p16 1)) fun p17 =>
  (Option.bind (HS.cut p15 p17 (mx 0 (mn x1 (Sl.len p3 : Int))) (Sl.len p17 : Int) 1) fun p18 =>
  (Option.bind (HS.rows p15 p18 1) fun p19 =>
  (Option.bind (HS.app p15 Sl.nil p19 1) fun p20 =>
  (Option.bind (x0) fun p21 =>
  (Option.bind (HS.sets (p20.2) (HA.fld p21 1) [(Sl.hv (p20.1))]) fun p22 =>
  (Option.bind (x0) fun p23 =>
  (Option.bind (HS.ldI p22 .i64 (HA.fld p23 3)) fun p24 =>
  (Option.bind (x0) fun p25 =>
  (Option.bind (HS.sets p22 (HA.fld p25 3) [(.int .i64 (w64 (p24 + (mx 0 (mn x1 (Sl.len p3 : Int))))))]) fun p26 =>
  some ((p4.1), p26)))))))))))))))))))))))))))
theorem snd {k : Nat} {x0 : (Option HA)} {x1 : Int} {S : HS}  {p : (Sl) × HS} (h : f k x0 x1 S = some p) : HCall Try.prog base W0 β0 9 [(.ptr x0), (.int .i64 x1)] S (fun v S1 => v = (Sl.hv p.1) ∧ S1 = p.2) := by
  unfold f at h
  refine HCall.of_run at_.at_ body ?_
  show HRun Try.prog base W0 β0 9 none [.code c0] ⟨[(.ptr x0), (.int .i64 x1), τ, τ, τ, τ, τ, τ, τ, τ, τ, τ, τ, τ, τ, τ, τ, τ, τ, τ, τ, τ, τ, τ, τ, τ, τ, τ, τ, τ, τ, τ, τ, τ, τ, τ, τ, τ, τ, τ, τ, τ, τ, τ, τ, τ, τ, τ, τ, τ, τ, τ, τ, τ, τ, τ], []⟩ S _
  refine q_seq rfl ?_
  refine q_region rfl rfl ?_
  refine qS 4 rfl (ok_assign · (.const fun _ => .slNil none)) ?_
  refine hr_region_end ?_
  try dsimp only [w0, w1, w2, w3]
  refine q_seq rfl ?_
  refine q_seq rfl ?_
  refine q_region rfl rfl ?_
  refine qS 6 rfl (ok_move · (.tmp rfl)) ?_
  refine qS 7 rfl (ok_nil_ptr · tu25 (.tmp rfl) (.inl ⟨rfl, rfl⟩)) ?_
  refine hr_region_end ?_
  try dsimp only [w0, w1, w2, w3]
  rcases ifc h with ⟨hc1, h⟩ | ⟨hc1, h⟩
  · refine q_cond_t rfl (.tmp rfl) hc1 ?_
    refine q_seq rfl ?_
    refine q_region rfl rfl ?_
    refine qS 4 rfl (ok_assign · (.const fun _ => .slNil none)) ?_
    refine hr_region_end ?_
    try dsimp only [w0, w1, w2, w3]
    cases h
    exact q_ret rfl at_.at_ rfl (res1 rfl rfl) ⟨rfl, rfl⟩
  · refine q_cond_f rfl (.tmp rfl) (bfalse hc1) ?_
    refine q_skipc rfl ?_
    refine q_seq rfl ?_
    refine q_region rfl rfl ?_
    refine qS 8 rfl (ok_move · (.tmp rfl)) ?_
    refine qS 9 rfl (ok_move · (.tmp rfl)) ?_
    obtain ⟨p2, hp2, h⟩ := bindo h
    refine qS 10 rfl (ok_nilCheck_p · (.tmp rfl) hp2) ?_
    refine qS 11 rfl (ok_fieldAddr_s · fi53_1 (by decide) (.tmp rfl) rfl) ?_
    try dsimp only [w0, w1, w2, w3]
    obtain ⟨p3, hp3, h⟩ := bindo h
    refine qS 12 rfl (ok_load_s · sc31 (.tmp rfl) rfl (ldSl_out hp3)) ?_
    refine qS 13 rfl (ok_len_sl (q := Sl.a p3) (n := Sl.len p3) (z := Sl.cap p3) · rfl tu31 (.tmp rfl)) ?_
    refine qS 14 rfl (ok_min · (.tmp rfl) (.tmp rfl)) ?_
    refine qS 15 rfl (ok_max · (.int _ _) (.tmp rfl)) ?_
    try dsimp only [w0, w1, w2, w3]
    refine qS 1 rfl (ok_assign · (.tmp rfl)) ?_
    refine hr_region_end ?_
    try dsimp only [w0, w1, w2, w3]
    refine q_seq rfl ?_
    refine q_region rfl rfl ?_
    refine qS 16 rfl (ok_move · (.tmp rfl)) ?_
    obtain ⟨p4, hp4, h⟩ := bindo h
    refine qS 17 rfl (ok_make el31 · (.tmp rfl) (.tmp rfl) hp4) ?_
    refine qS 5 rfl (ok_assign · (.tmp rfl)) ?_
    refine hr_region_end ?_
    try dsimp only [w0, w1, w2, w3]
    refine q_seq rfl ?_
    refine q_region rfl rfl ?_
    refine qS 18 rfl (ok_move · (.tmp rfl)) ?_
    refine qS 19 rfl (ok_move · (.tmp rfl)) ?_
    obtain ⟨p5, hp5, h⟩ := bindo h
    refine qS 20 rfl (ok_nilCheck_p · (.tmp rfl) hp5) ?_
    refine qS 21 rfl (ok_fieldAddr_s · fi53_1 (by decide) (.tmp rfl) rfl) ?_
    try dsimp only [w0, w1, w2, w3]
    obtain ⟨p6, hp6, h⟩ := bindo h
    refine qS 22 rfl (ok_load_s · sc31 (.tmp rfl) rfl (ldSl_out hp6)) ?_
    obtain ⟨p7, hp7, h⟩ := bindo h
    obtain ⟨p8, hp8, h⟩ := bindo h
    refine qS 23 rfl (ok_copy (s := (p4.1)) (s1 := p6) el31 · rfl (.tmp rfl) (.tmp rfl) hp7 hp8) ?_
    refine hr_region_end ?_
    try dsimp only [w0, w1, w2, w3]
    refine q_seq rfl ?_
    refine x_start (cls := [0, 0, 0, 0, 1, 0, 0, 0, 1, 0, 2, 0, 0, 2]) (rk := [0, 1, 2, 3, 4, 5, 6, 7, 8, 9, 10, 11, 12, 13]) rfl (by kernel_rfl) ?_
    refine yf 24 [0] rfl (ok_move · (.tmp rfl)) ?_
    refine yf 25 [0] rfl (ok_move · (.tmp rfl)) ?_
    obtain ⟨p9, hp9, h⟩ := bindo h
    refine yf 26 [25] rfl (ok_nilCheck_p · (.tmp rfl) hp9) ?_
    refine yf 27 [26] rfl (ok_fieldAddr_s · fi53_1 (by decide) (.tmp rfl) rfl) ?_
    try dsimp only [w0, w1, w2, w3]
    obtain ⟨p10, hp10, h⟩ := bindo h
    refine yr 28 [27] rfl (ok_load_s · sc31 (.tmp rfl) rfl (ldSl_out hp10)) ?_
    refine yf 29 [0] rfl (ok_move · (.tmp rfl)) ?_
    obtain ⟨p11, hp11, h⟩ := bindo h
    refine yf 30 [29] rfl (ok_nilCheck_p · (.tmp rfl) hp11) ?_
    refine yf 31 [30] rfl (ok_fieldAddr_s · fi53_2 (by decide) (.tmp rfl) rfl) ?_
    try dsimp only [w0, w1, w2, w3]
    obtain ⟨p12, hp12, h⟩ := bindo h
    refine yr 32 [31] rfl (ok_load_s · sc3 (.tmp rfl) rfl (ldI_out hp12)) ?_
    refine yf 33 [1] rfl (ok_move · (.tmp rfl)) ?_
    obtain ⟨p13, hp13, h⟩ := bindo h
    refine x_go (e_call (dst := some 34) (ts := [28, 32, 33]) rfl (by kernel_rfl) (.func _) (.cons (.tmp rfl) (.cons (.tmp rfl) (.cons (.tmp rfl) Evs.nil))) (HInv.static sendq_torn.at_ sendq_torn.body (sendq_torn.snd  hp13))) rfl ?_
    obtain ⟨p14, hp14, h⟩ := bindo h
    refine yf 35 [24] rfl (ok_nilCheck_p · (.tmp rfl) hp14) ?_
    try dsimp only [w0, w1, w2, w3]
    refine yf 36 [35] rfl (ok_fieldAddr_s · fi53_2 (by decide) (.tmp rfl) rfl) ?_
    obtain ⟨p15, hp15, h⟩ := bindo h
    refine x_go (e_op (dst := none) (ts := [36, 34]) rfl (by intro _ _ h; cases h) (by kernel_rfl) (fun _ ho => ok_store_s (v := (.int .i64 p13.1)) ho sz3 (.tmp rfl) rfl (.tmp rfl) rfl hp15)) rfl ?_
    refine x_rest rfl ?_
    refine hr_region_end ?_
    try dsimp only [w0, w1, w2, w3]
    refine q_seq rfl ?_
    refine q_region rfl rfl ?_
    refine qS 37 rfl (ok_move · (.tmp rfl)) ?_
    refine qS 38 rfl (ok_move · (.tmp rfl)) ?_
    obtain ⟨p16, hp16, h⟩ := bindo h
    refine qS 39 rfl (ok_nilCheck_p · (.tmp rfl) hp16) ?_
    refine qS 40 rfl (ok_fieldAddr_s · fi53_1 (by decide) (.tmp rfl) rfl) ?_
    try dsimp only [w0, w1, w2, w3]
    obtain ⟨p17, hp17, h⟩ := bindo h
    refine qS 41 rfl (ok_load_s · sc31 (.tmp rfl) rfl (ldSl_out hp17)) ?_
    refine qS 42 rfl (ok_move · (.tmp rfl)) ?_
    obtain ⟨p18, hp18, h⟩ := bindo h
    refine qS 43 rfl (ok_slice (kl := .i64) (kh := .i64) (s := p17) (l := (mx 0 (mn x1 (Sl.len p3 : Int)))) (h := (Sl.len p17 : Int)) · tu31 si5 (.tmp rfl) (.inr ⟨_, rfl, (.tmp rfl)⟩) (.inl ⟨rfl, rfl⟩) hp18) ?_
    obtain ⟨p19, hp19, h⟩ := bindo h
    obtain ⟨p20, hp20, h⟩ := bindo h
    refine qS 44 rfl (ok_append (s := Sl.nil) (s1 := p18) el31 · rfl rfl ⟨_, tu31⟩ (.const fun _ => .slNil none) (.tmp rfl) hp19 hp20) ?_
    try dsimp only [w0, w1, w2, w3]
    obtain ⟨p21, hp21, h⟩ := bindo h
    refine qS 45 rfl (ok_nilCheck_p · (.tmp rfl) hp21) ?_
    refine qS 46 rfl (ok_fieldAddr_s · fi53_1 (by decide) (.tmp rfl) rfl) ?_
    obtain ⟨p22, hp22, h⟩ := bindo h
    refine qN rfl (ok_store_s (v := (Sl.hv (p20.1))) · sz31 (.tmp rfl) rfl (.tmp rfl) rfl hp22) ?_
    refine hr_region_end ?_
    try dsimp only [w0, w1, w2, w3]
    refine q_seq rfl ?_
    refine q_region rfl rfl ?_
    refine qS 47 rfl (ok_move · (.tmp rfl)) ?_
    obtain ⟨p23, hp23, h⟩ := bindo h
    refine qS 48 rfl (ok_nilCheck_p · (.tmp rfl) hp23) ?_
    refine qS 49 rfl (ok_fieldAddr_s · fi53_3 (by decide) (.tmp rfl) rfl) ?_
    obtain ⟨p24, hp24, h⟩ := bindo h
    refine qS 50 rfl (ok_load_s · sc3 (.tmp rfl) rfl (ldI_out hp24)) ?_
    try dsimp only [w0, w1, w2, w3]
    refine qS 51 rfl (ok_move · (.tmp rfl)) ?_
    refine qS 52 rfl (ok_ibin · (.tmp rfl) (.tmp rfl) rfl) ?_
    obtain ⟨p25, hp25, h⟩ := bindo h
    refine qS 53 rfl (ok_nilCheck_p · (.tmp rfl) hp25) ?_
    refine qS 54 rfl (ok_fieldAddr_s · fi53_3 (by decide) (.tmp rfl) rfl) ?_
    try dsimp only [w0, w1, w2, w3]
    obtain ⟨p26, hp26, h⟩ := bindo h
    refine qN rfl (ok_store_s (v := (.int .i64 (w64 (p24 + (mx 0 (mn x1 (Sl.len p3 : Int))))))) · sz3 (.tmp rfl) rfl (.tmp rfl) rfl hp26) ?_
    refine hr_region_end ?_
    try dsimp only [w0, w1, w2, w3]
    refine q_seq rfl ?_
    refine q_region rfl rfl ?_
    refine qS 55 rfl (ok_move · (.tmp rfl)) ?_
    refine qS 4 rfl (ok_assign · (.tmp rfl)) ?_
    refine hr_region_end ?_
    try dsimp only [w0, w1, w2, w3]
    cases h
    exact q_ret rfl at_.at_ rfl (res1 rfl rfl) ⟨rfl, rfl⟩
end
end sendq_Queue_Drain
namespace sendq_Queue_Lines_1
theorem at_ : FnAt Try.prog 24 Try.f24 := ⟨Try.func24, by kernel_rfl⟩
noncomputable def d0 := (Try.f24.body).getD .skip
noncomputable def c0 : Code := .skip
theorem body : Try.f24.body = some c0 := by kernel_rfl
section
variable {base : Nat} {W0 : World} {β0 : Bt}
def f (x0 : HV) : Option (Unit) :=
  some ()
theorem snd {x0 : HV} {S : HS}  {p : Unit} (h : f x0 = some p) : HCall Try.prog base W0 β0 24 [x0] S (fun v S1 => v = (.tup []) ∧ S1 = S) := by
  unfold f at h
  refine HCall.of_run at_.at_ body ?_
  show HRun Try.prog base W0 β0 24 none [.code c0] ⟨[x0, τ], []⟩ S _
  refine q_skipc rfl ?_
  cases h
  exact q_end at_.at_ rfl (res0 rfl) ⟨rfl, rfl⟩
end
end sendq_Queue_Lines_1
namespace sendq_Queue_Lines_2
theorem at_ : FnAt Try.prog 25 Try.f25 := ⟨Try.func25, by kernel_rfl⟩
noncomputable def d0 := (Try.f25.body).getD .skip
noncomputable def r1 := kR (kA d0)
noncomputable def d4 := kA (kA (kB d0))
noncomputable def r6 := kR (kA (kA d4))
noncomputable def r12 := kR (kA (kA (kB d4)))
noncomputable def r15 := kR (kA (kA (kB (kA (kB d4)))))
noncomputable def r19 := kR (kB (kB (kA (kB d4))))
noncomputable def c4 : Code := .seq (.seq (.region 1 r6 false) (.cond (.tmp 9) .skip (.exit 0))) (.block 1 (.seq (.region 2 r12 false) (.seq (.seq (.region 3 r15 false) (.cond (.tmp 19) .ret .skip)) (.region 4 r19 false))))
noncomputable def c0 : Code := .seq (.region 0 r1 false) (.block 0 (.loop c4))
theorem body : Try.f25.body = some c0 := by kernel_rfl
section
variable {base : Nat} {W0 : World} {β0 : Bt}
def L0 (D : Dp) (H : Hd) (k : Nat) : Nat → HV → (List UInt8) → HS → Option ((Unit) × HS)
  | 0, _, _, _ => none
  | n + 1, y0, y3, S =>
    (if (!decide (y3 = ([] : List UInt8))) = true then
    (Option.bind (strings_Cut.f y3 ([13, 10] : List UInt8)) fun p4 =>
    (Option.bind (D H y0 [(.str p4.1)] S) fun p5 =>
    (Option.bind (dB p5.1) fun p6 =>
    (if (!p6) = true then
    some ((), p5.2) else
    (L0 D H k n) y0 p4.2.1 p5.2)))) else
    some ((), S))
theorem L0_snd {D : Dp} {H : Hd} {k : Nat} (hD : DSound Try.prog base W0 D) (hH : HSound Try.prog base W0 β0 H) (hG : GF W0 base)  : ∀ {n : Nat} ⦃y0 : HV⦄ ⦃y3 : (List UInt8)⦄ ⦃S : HS⦄ ⦃p : (Unit) × HS⦄ ⦃g1 g2 g4 g5 g6 g7 g8 g9 g10 g11 g12 g13 g14 g15 g16 g17 g18 g19 g20 : HV⦄, L0 D H k n y0 y3 S = some p → HRun Try.prog base W0 β0 25 none [.inLoop c4, .inBlock 0] ⟨[y0, g1, g2, (.str y3), g4, g5, g6, g7, g8, g9, g10, g11, g12, g13, g14, g15, g16, g17, g18, g19, g20], []⟩ S (fun v S1 => v = (.tup []) ∧ S1 = p.2) := by
  intro n
  induction n with
  | zero => intro _ _ _ _ _ _ _ _ _ _ _ _ _ _ _ _ _ _ _ _ _ _ _ h; cases h
  | succ n ih =>
    intro y0 y3 S p g1 g2 g4 g5 g6 g7 g8 g9 g10 g11 g12 g13 g14 g15 g16 g17 g18 g19 g20 h
    simp only [L0] at h
    refine hr_inLoop ?_
    refine q_seq rfl ?_
    refine q_seq rfl ?_
    refine q_region rfl rfl ?_
    refine qS 8 rfl (ok_move · (.tmp rfl)) ?_
    refine qS 9 rfl (ok_sbin · (.tmp rfl) (.str _) rfl) ?_
    refine hr_region_end ?_
    try dsimp only [w0, w1, w2, w3]
    rcases ifc h with ⟨hc3, h⟩ | ⟨hc3, h⟩
    · refine q_cond_t rfl (.tmp rfl) hc3 ?_
      refine q_skipc rfl ?_
      refine q_block rfl ?_
      refine q_seq rfl ?_
      refine q_region rfl rfl ?_
      refine qS 11 rfl (ok_move · (.tmp rfl)) ?_
      obtain ⟨p4, hp4, h⟩ := bindo h
      refine q_call (dst := some 12) rfl (.func _) (.cons (.tmp rfl) (.cons (.str _) Evs.nil)) (HInv.static strings_Cut.at_ strings_Cut.body (strings_Cut.snd hG hp4)) ?_
      rintro _ _ ⟨rfl, rfl⟩
      refine qS 10 rfl (ok_move · (.tmp rfl)) ?_
      refine qS 13 rfl (ok_extract · (.tmp rfl) rfl) ?_
      try dsimp only [w0, w1, w2, w3]
      refine qS 14 rfl (ok_extract · (.tmp rfl) rfl) ?_
      refine qS 15 rfl (ok_extract · (.tmp rfl) rfl) ?_
      refine qS 4 rfl (ok_assign · (.tmp rfl)) ?_
      refine qS 5 rfl (ok_assign · (.tmp rfl)) ?_
      try dsimp only [w0, w1, w2, w3]
      refine qS 6 rfl (ok_assign · (.tmp rfl)) ?_
      refine hr_region_end ?_
      try dsimp only [w0, w1, w2, w3]
      refine q_seq rfl ?_
      refine q_seq rfl ?_
      refine q_region rfl rfl ?_
      refine qS 16 rfl (ok_move · (.tmp rfl)) ?_
      refine qS 17 rfl (ok_move · (.tmp rfl)) ?_
      obtain ⟨p5, hp5, h⟩ := bindo h
      obtain ⟨p6, hp6, h⟩ := bindo h
      refine q_call (dst := some 18) rfl (.tmp rfl) (.cons (.tmp rfl) Evs.nil) (hD _ _ hH _ _ _ _ _ hp5) ?_
      rintro _ _ ⟨rfl, rfl⟩
      rw [dB_out hp6]
      refine qS 19 rfl (ok_not · (.tmp rfl)) ?_
      refine hr_region_end ?_
      try dsimp only [w0, w1, w2, w3]
      rcases ifc h with ⟨hc7, h⟩ | ⟨hc7, h⟩
      · refine q_cond_t rfl (.tmp rfl) hc7 ?_
        cases h
        exact q_ret rfl at_.at_ rfl (res0 rfl) ⟨rfl, rfl⟩
      · refine q_cond_f rfl (.tmp rfl) (bfalse hc7) ?_
        refine q_skipc rfl ?_
        refine q_region rfl rfl ?_
        refine qS 20 rfl (ok_move · (.tmp rfl)) ?_
        refine qS 3 rfl (ok_assign · (.tmp rfl)) ?_
        refine hr_region_end ?_
        try dsimp only [w0, w1, w2, w3]
        refine hr_inBlock ?_
        try dsimp only [w0, w1, w2, w3]
        exact ih h
    · refine q_cond_f rfl (.tmp rfl) (bfalse hc3) ?_
      refine q_exit rfl rfl ?_
      cases h
      exact q_end at_.at_ rfl (res0 rfl) ⟨rfl, rfl⟩
def f (D : Dp) (H : Hd) (k : Nat) (x0 : HV) (x1 : (Option HA)) (S : HS) : Option ((Unit) × HS) :=
  (Option.bind (x1) fun p1 =>
  (Option.bind (HS.ldS S p1) fun p2 =>
  L0 D H k k x0 p2 S))
theorem snd {D : Dp} {H : Hd} {k : Nat} {x0 : HV} {x1 : (Option HA)} {S : HS} (hD : DSound Try.prog base W0 D) (hH : HSound Try.prog base W0 β0 H) (hG : GF W0 base)  {p : (Unit) × HS} (h : f D H k x0 x1 S = some p) : HCall Try.prog base W0 β0 25 [x0, (.ptr x1)] S (fun v S1 => v = (.tup []) ∧ S1 = p.2) := by
  unfold f at h
  refine HCall.of_run at_.at_ body ?_
  show HRun Try.prog base W0 β0 25 none [.code c0] ⟨[x0, (.ptr x1), τ, τ, τ, τ, τ, τ, τ, τ, τ, τ, τ, τ, τ, τ, τ, τ, τ, τ, τ], []⟩ S _
  refine q_seq rfl ?_
  refine q_region rfl rfl ?_
  obtain ⟨p1, hp1, h⟩ := bindo h
  obtain ⟨p2, hp2, h⟩ := bindo h
  refine qS 7 rfl (ok_load_s · sc9 (.tmp rfl) hp1 (ldS_out hp2)) ?_
  refine qS 3 rfl (ok_assign · (.tmp rfl)) ?_
  refine hr_region_end ?_
  try dsimp only [w0, w1, w2, w3]
  refine q_block rfl ?_
  refine q_loop rfl ?_
  try dsimp only [w0, w1, w2, w3]
  exact L0_snd hD hH hG h
end
end sendq_Queue_Lines_2
namespace sendq_Queue_Lines
theorem at_ : FnAt Try.prog 20 Try.f20 := ⟨Try.func20, by kernel_rfl⟩
noncomputable def d0 := (Try.f20.body).getD .skip
noncomputable def r1 := kR (kA d0)
noncomputable def r4 := kR (kA (kA (kB d0)))
noncomputable def r7 := kR (kA (kA (kB (kA (kB d0)))))
noncomputable def r11 := kR (kA (kB (kB d0)))
noncomputable def r13 := kR (kA (kB (kB (kB d0))))
noncomputable def c0 : Code := .seq (.region 0 r1 false) (.seq (.seq (.region 1 r4 false) (.cond (.tmp 5) (.seq (.region 2 r7 false) .ret) .skip)) (.seq (.region 3 r11 true) (.seq (.region 4 r13 false) .ret)))
theorem body : Try.f20.body = some c0 := by kernel_rfl
section
variable {base : Nat} {W0 : World} {β0 : Bt}
def f (x0 : (Option HA)) (S : HS) : Option ((HV) × HS) :=
  (if (Option.isNone x0) = true then
  some ((HV.fn (.func 24) [] []), S) else
  (Option.bind (x0) fun p2 =>
  (Option.bind (HS.ldSl S (HA.fld p2 1)) fun p3 =>
  (Option.bind (x0) fun p4 =>
  (Option.bind (HS.ldI S .i64 (HA.fld p4 2)) fun p5 =>
  (Option.bind (HS.cut S p3 p5 (Sl.len p3 : Int) 1) fun p6 =>
  (Option.bind (HS.text S p6) fun p7 =>
  (letv (HS.new S (.cells 1 [[(.str [])]] true)) fun p8 =>
  (Option.bind (HS.text p8 p6) fun p9 =>
  (if p9 = p7 then
  (Option.bind (HS.cut p8 p3 p5 (Sl.len p3 : Int) 1) fun p11 =>
  (if p11 = p6 then
  (Option.bind (HS.ldI p8 .i64 (HA.fld p4 2)) fun p13 =>
  (if p13 = p5 then
  (Option.bind (HS.ldSl p8 (HA.fld p2 1)) fun p15 =>
  (if p15 = p3 then
  (Option.bind (HS.sets p8 (HA.cell0 S.next) [(.str p7)]) fun p17 =>
  some ((HV.fn (.func 25) [] [(.ptr (some (HA.cell0 S.next)))]), p17)) else none)) else none)) else none)) else none))))))))))
theorem snd {x0 : (Option HA)} {S : HS}  {p : (HV) × HS} (h : f x0 S = some p) : HCall Try.prog base W0 β0 20 [(.ptr x0)] S (fun v S1 => v = p.1 ∧ S1 = p.2) := by
  unfold f at h
  refine HCall.of_run at_.at_ body ?_
  show HRun Try.prog base W0 β0 20 none [.code c0] ⟨[(.ptr x0), τ, τ, τ, τ, τ, τ, τ, τ, τ, τ, τ, τ, τ, τ, τ, τ], []⟩ S _
  refine q_seq rfl ?_
  refine q_region rfl rfl ?_
  refine qS 2 rfl (ok_assign · (.const fun _ => .nilFn)) ?_
  refine hr_region_end ?_
  try dsimp only [w0, w1, w2, w3]
  refine q_seq rfl ?_
  refine q_seq rfl ?_
  refine q_region rfl rfl ?_
  refine qS 4 rfl (ok_move · (.tmp rfl)) ?_
  refine qS 5 rfl (ok_nil_ptr · tu25 (.tmp rfl) (.inl ⟨rfl, rfl⟩)) ?_
  refine hr_region_end ?_
  try dsimp only [w0, w1, w2, w3]
  rcases ifc h with ⟨hc1, h⟩ | ⟨hc1, h⟩
  · refine q_cond_t rfl (.tmp rfl) hc1 ?_
    refine q_seq rfl ?_
    refine q_region rfl rfl ?_
    refine qS 2 rfl (ok_assign · (.func _)) ?_
    refine hr_region_end ?_
    try dsimp only [w0, w1, w2, w3]
    cases h
    exact q_ret rfl at_.at_ rfl (res1 rfl rfl) ⟨rfl, rfl⟩
  · refine q_cond_f rfl (.tmp rfl) (bfalse hc1) ?_
    refine q_skipc rfl ?_
    refine q_seq rfl ?_
    refine x_start (cls := [0, 0, 0, 3, 0, 0, 0, 3, 3, 3, 2, 2]) (rk := [0, 1, 2, 3, 4, 5, 6, 7, 8, 9, 10, 11]) rfl (by kernel_rfl) ?_
    refine xf 6 [0] rfl (ok_move · (.tmp rfl)) ?_
    obtain ⟨p2, hp2, h⟩ := bindo h
    refine xf 7 [6] rfl (ok_nilCheck_p · (.tmp rfl) hp2) ?_
    refine xf 8 [7] rfl (ok_fieldAddr_s · fi53_1 (by decide) (.tmp rfl) rfl) ?_
    obtain ⟨p3, hp3, h⟩ := bindo h
    refine x_late (r_op (dst := some 9) (ts := [8]) rfl (by intro _ _ h; cases h) (by kernel_rfl) (fun _ ho => ok_load_s ho sc31 (.tmp rfl) rfl (ldSl_out hp3))) rfl trivial ?_
    try dsimp only [w0, w1, w2, w3]
    refine xf 10 [0] rfl (ok_move · (.tmp rfl)) ?_
    obtain ⟨p4, hp4, h⟩ := bindo h
    refine xf 11 [10] rfl (ok_nilCheck_p · (.tmp rfl) hp4) ?_
    refine xf 12 [11] rfl (ok_fieldAddr_s · fi53_2 (by decide) (.tmp rfl) rfl) ?_
    obtain ⟨p5, hp5, h⟩ := bindo h
    refine x_late (r_op (dst := some 13) (ts := [12]) rfl (by intro _ _ h; cases h) (by kernel_rfl) (fun _ ho => ok_load_s ho sc3 (.tmp rfl) rfl (ldI_out hp5))) rfl trivial ?_
    try dsimp only [w0, w1, w2, w3]
    obtain ⟨p6, hp6, h⟩ := bindo h
    refine x_late (r_op (dst := some 14) (ts := [9, 13]) rfl (by intro _ _ h; cases h) (by kernel_rfl) (fun _ ho => ok_slice (kl := .i64) (kh := .i64) (s := p3) (l := p5) (h := (Sl.len p3 : Int)) ho tu31 si5 (.tmp rfl) (.inr ⟨_, rfl, (.tmp rfl)⟩) (.inl ⟨rfl, rfl⟩) hp6)) rfl trivial ?_
    obtain ⟨p7, hp7, h⟩ := bindo h
    refine x_late (r_op (dst := some 15) (ts := [14]) rfl (by intro _ _ h; cases h) (by kernel_rfl) (fun _ ho => ok_str_of_bytes (s := p6) ho tu31 tu5 tu9 (.tmp rfl) hp7)) rfl trivial ?_
    obtain ⟨p8, hp8, h⟩ := leto h
    obtain ⟨p9, hp9, h⟩ := bindo h
    obtain ⟨hg10, h⟩ := gd h
    obtain ⟨p11, hp11, h⟩ := bindo h
    obtain ⟨hg12, h⟩ := gd h
    obtain ⟨p13, hp13, h⟩ := bindo h
    obtain ⟨hg14, h⟩ := gd h
    obtain ⟨p15, hp15, h⟩ := bindo h
    obtain ⟨hg16, h⟩ := gd h
    refine ze 3 [] rfl (ok_alloc_e · zi9 zr9 (by decide) rfl hp8) ⟨.inr (l_op (dst := some 15) (ts := [14]) rfl (by intro _ _ h; cases h) (by kernel_rfl) (fun _ ho => ok_str_of_bytes (s := p6) ho tu31 tu5 tu9 (.tmp rfl) (hp9.trans (congrArg some hg10)))), .inr (l_op (dst := some 14) (ts := [9, 13]) rfl (by intro _ _ h; cases h) (by kernel_rfl) (fun _ ho => ok_slice (kl := .i64) (kh := .i64) (s := p3) (l := p5) (h := (Sl.len p3 : Int)) ho tu31 si5 (.tmp rfl) (.inr ⟨_, rfl, (.tmp rfl)⟩) (.inl ⟨rfl, rfl⟩) (hp11.trans (congrArg some hg12)))), .inr (l_op (dst := some 13) (ts := [12]) rfl (by intro _ _ h; cases h) (by kernel_rfl) (fun _ ho => ok_load_s ho sc3 (.tmp rfl) rfl (ldI_out (hp13.trans (congrArg some hg14))))), .inr (l_op (dst := some 9) (ts := [8]) rfl (by intro _ _ h; cases h) (by kernel_rfl) (fun _ ho => ok_load_s ho sc31 (.tmp rfl) rfl (ldSl_out (hp15.trans (congrArg some hg16))))), trivial⟩ ?_
    obtain ⟨p17, hp17, h⟩ := bindo h
    refine x_goE (e_op (dst := none) (ts := [3, 15]) rfl (by intro _ _ h; cases h) (by kernel_rfl) (fun _ ho => ok_store_s (v := (.str p7)) ho sz9 (.tmp rfl) rfl (.tmp rfl) rfl hp17)) rfl ⟨.inl (by kernel_rfl), .inl (by kernel_rfl), .inl (by kernel_rfl), .inl (by kernel_rfl), trivial⟩ ?_
    refine x_rest rfl ?_
    refine hr_region_end ?_
    try dsimp only [w0, w1, w2, w3]
    refine q_seq rfl ?_
    refine q_region rfl rfl ?_
    refine qS 16 rfl (ok_makeFunc · Evs.nil (.cons (.tmp rfl) Evs.nil)) ?_
    refine qS 2 rfl (ok_assign · (.tmp rfl)) ?_
    refine hr_region_end ?_
    try dsimp only [w0, w1, w2, w3]
    cases h
    exact q_ret rfl at_.at_ rfl (res1 rfl rfl) ⟨rfl, rfl⟩
end
end sendq_Queue_Lines
namespace sendq_Queue_Len
theorem at_ : FnAt Try.prog 11 Try.f11 := ⟨Try.func11, by kernel_rfl⟩
noncomputable def d0 := (Try.f11.body).getD .skip
noncomputable def r1 := kR (kA d0)
noncomputable def r4 := kR (kA (kA (kB d0)))
noncomputable def r7 := kR (kA (kA (kB (kA (kB d0)))))
noncomputable def r11 := kR (kA (kB (kB d0)))
noncomputable def c0 : Code := .seq (.region 0 r1 false) (.seq (.seq (.region 1 r4 false) (.cond (.tmp 4) (.seq (.region 2 r7 false) .ret) .skip)) (.seq (.region 3 r11 false) .ret))
theorem body : Try.f11.body = some c0 := by kernel_rfl
section
variable {base : Nat} {W0 : World} {β0 : Bt}
def f (x0 : (Option HA)) (S : HS) : Option ((Int) × HS) :=
  (if (Option.isNone x0) = true then
  some (0, S) else
  (Option.bind (x0) fun p2 =>
  (Option.bind (HS.ldSl S (HA.fld p2 1)) fun p3 =>
  some ((Sl.len p3 : Int), S))))
theorem snd {x0 : (Option HA)} {S : HS}  {p : (Int) × HS} (h : f x0 S = some p) : HCall Try.prog base W0 β0 11 [(.ptr x0)] S (fun v S1 => v = (.int .i64 p.1) ∧ S1 = p.2) := by
  unfold f at h
  refine HCall.of_run at_.at_ body ?_
  show HRun Try.prog base W0 β0 11 none [.code c0] ⟨[(.ptr x0), τ, τ, τ, τ, τ, τ, τ, τ, τ], []⟩ S _
  refine q_seq rfl ?_
  refine q_region rfl rfl ?_
  refine qS 2 rfl (ok_assign · (.int _ _)) ?_
  refine hr_region_end ?_
  try dsimp only [w0, w1, w2, w3]
  refine q_seq rfl ?_
  refine q_seq rfl ?_
  refine q_region rfl rfl ?_
  refine qS 3 rfl (ok_move · (.tmp rfl)) ?_
  refine qS 4 rfl (ok_nil_ptr · tu25 (.tmp rfl) (.inl ⟨rfl, rfl⟩)) ?_
  refine hr_region_end ?_
  try dsimp only [w0, w1, w2, w3]
  rcases ifc h with ⟨hc1, h⟩ | ⟨hc1, h⟩
  · refine q_cond_t rfl (.tmp rfl) hc1 ?_
    refine q_seq rfl ?_
    refine q_region rfl rfl ?_
    refine qS 2 rfl (ok_assign · (.int _ _)) ?_
    refine hr_region_end ?_
    try dsimp only [w0, w1, w2, w3]
    cases h
    exact q_ret rfl at_.at_ rfl (res1 rfl rfl) ⟨rfl, rfl⟩
  · refine q_cond_f rfl (.tmp rfl) (bfalse hc1) ?_
    refine q_skipc rfl ?_
    refine q_seq rfl ?_
    refine q_region rfl rfl ?_
    refine qS 5 rfl (ok_move · (.tmp rfl)) ?_
    obtain ⟨p2, hp2, h⟩ := bindo h
    refine qS 6 rfl (ok_nilCheck_p · (.tmp rfl) hp2) ?_
    refine qS 7 rfl (ok_fieldAddr_s · fi53_1 (by decide) (.tmp rfl) rfl) ?_
    obtain ⟨p3, hp3, h⟩ := bindo h
    refine qS 8 rfl (ok_load_s · sc31 (.tmp rfl) rfl (ldSl_out hp3)) ?_
    try dsimp only [w0, w1, w2, w3]
    refine qS 9 rfl (ok_len_sl (q := Sl.a p3) (n := Sl.len p3) (z := Sl.cap p3) · rfl tu31 (.tmp rfl)) ?_
    refine qS 2 rfl (ok_assign · (.tmp rfl)) ?_
    refine hr_region_end ?_
    try dsimp only [w0, w1, w2, w3]
    cases h
    exact q_ret rfl at_.at_ rfl (res1 rfl rfl) ⟨rfl, rfl⟩
end
end sendq_Queue_Len
namespace sendq_Queue_Sent
theorem at_ : FnAt Try.prog 12 Try.f12 := ⟨Try.func12, by kernel_rfl⟩
noncomputable def d0 := (Try.f12.body).getD .skip
noncomputable def r1 := kR (kA d0)
noncomputable def r4 := kR (kA (kA (kB d0)))
noncomputable def r7 := kR (kA (kA (kB (kA (kB d0)))))
noncomputable def r11 := kR (kA (kB (kB d0)))
noncomputable def c0 : Code := .seq (.region 0 r1 false) (.seq (.seq (.region 1 r4 false) (.cond (.tmp 4) (.seq (.region 2 r7 false) .ret) .skip)) (.seq (.region 3 r11 false) .ret))
theorem body : Try.f12.body = some c0 := by kernel_rfl
section
variable {base : Nat} {W0 : World} {β0 : Bt}
def f (x0 : (Option HA)) (S : HS) : Option ((Int) × HS) :=
  (if (Option.isNone x0) = true then
  some (0, S) else
  (Option.bind (x0) fun p2 =>
  (Option.bind (HS.ldI S .i64 (HA.fld p2 3)) fun p3 =>
  some (p3, S))))
theorem snd {x0 : (Option HA)} {S : HS}  {p : (Int) × HS} (h : f x0 S = some p) : HCall Try.prog base W0 β0 12 [(.ptr x0)] S (fun v S1 => v = (.int .i64 p.1) ∧ S1 = p.2) := by
  unfold f at h
  refine HCall.of_run at_.at_ body ?_
  show HRun Try.prog base W0 β0 12 none [.code c0] ⟨[(.ptr x0), τ, τ, τ, τ, τ, τ, τ, τ], []⟩ S _
  refine q_seq rfl ?_
  refine q_region rfl rfl ?_
  refine qS 2 rfl (ok_assign · (.int _ _)) ?_
  refine hr_region_end ?_
  try dsimp only [w0, w1, w2, w3]
  refine q_seq rfl ?_
  refine q_seq rfl ?_
  refine q_region rfl rfl ?_
  refine qS 3 rfl (ok_move · (.tmp rfl)) ?_
  refine qS 4 rfl (ok_nil_ptr · tu25 (.tmp rfl) (.inl ⟨rfl, rfl⟩)) ?_
  refine hr_region_end ?_
  try dsimp only [w0, w1, w2, w3]
  rcases ifc h with ⟨hc1, h⟩ | ⟨hc1, h⟩
  · refine q_cond_t rfl (.tmp rfl) hc1 ?_
    refine q_seq rfl ?_
    refine q_region rfl rfl ?_
    refine qS 2 rfl (ok_assign · (.int _ _)) ?_
    refine hr_region_end ?_
    try dsimp only [w0, w1, w2, w3]
    cases h
    exact q_ret rfl at_.at_ rfl (res1 rfl rfl) ⟨rfl, rfl⟩
  · refine q_cond_f rfl (.tmp rfl) (bfalse hc1) ?_
    refine q_skipc rfl ?_
    refine q_seq rfl ?_
    refine q_region rfl rfl ?_
    refine qS 5 rfl (ok_move · (.tmp rfl)) ?_
    obtain ⟨p2, hp2, h⟩ := bindo h
    refine qS 6 rfl (ok_nilCheck_p · (.tmp rfl) hp2) ?_
    refine qS 7 rfl (ok_fieldAddr_s · fi53_3 (by decide) (.tmp rfl) rfl) ?_
    obtain ⟨p3, hp3, h⟩ := bindo h
    refine qS 8 rfl (ok_load_s · sc3 (.tmp rfl) rfl (ldI_out hp3)) ?_
    try dsimp only [w0, w1, w2, w3]
    refine qS 2 rfl (ok_assign · (.tmp rfl)) ?_
    refine hr_region_end ?_
    try dsimp only [w0, w1, w2, w3]
    cases h
    exact q_ret rfl at_.at_ rfl (res1 rfl rfl) ⟨rfl, rfl⟩
end
end sendq_Queue_Sent
namespace rollcalllaw08_awake
theorem at_ : FnAt Try.prog 7 Try.f7 := ⟨Try.func7, by kernel_rfl⟩
noncomputable def d0 := (Try.f7.body).getD .skip
noncomputable def r1 := kR (kA d0)
noncomputable def r3 := kR (kA (kB d0))
noncomputable def r6 := kR (kA (kA (kB (kB d0))))
noncomputable def r9 := kR (kA (kA (kB (kA (kB (kB d0))))))
noncomputable def d12 := kB (kB (kB d0))
noncomputable def r13 := kR (kA d12)
noncomputable def r16 := kR (kA (kA (kB d12)))
noncomputable def r19 := kR (kA (kA (kB (kA (kB d12)))))
noncomputable def r23 := kR (kA (kB (kB d12)))
noncomputable def r26 := kR (kA (kA (kB (kB (kB d12)))))
noncomputable def r31 := kR (kA (kB (kA (kB (kA (kB (kB (kB d12))))))))
noncomputable def r33 := kR (kA (kB (kB (kB (kB d12)))))
noncomputable def c34 : Code := .ret
noncomputable def c30 : Code := .block 1 (.region 9 r31 false)
noncomputable def c29 : Code := .skip
noncomputable def c12 : Code := .seq (.region 4 r13 false) (.seq (.seq (.region 5 r16 false) (.cond (.tmp 30) (.seq (.region 6 r19 false) .ret) .skip)) (.seq (.region 7 r23 false) (.seq (.seq (.region 8 r26 false) (.block 0 (.rangeFunc (.tmp 31) #[32] c29 c30))) (.seq (.region 10 r33 false) c34))))
noncomputable def c7 : Code := .cond (.tmp 26) (.seq (.region 3 r9 false) .ret) .skip
noncomputable def c0 : Code := .seq (.region 0 r1 false) (.seq (.region 1 r3 false) (.seq (.seq (.region 2 r6 false) c7) c12))
theorem body : Try.f7.body = some c0 := by kernel_rfl
section
variable {base : Nat} {W0 : World} {β0 : Bt}
def J3 (D : Dp) (H : Hd) (k : Nat) (l : Nat) (y4 : (Option HA)) (S : HS) : Option (HV × HS) :=
  (Option.bind (HS.begin_ S l) fun p13 =>
  (Option.bind (y4) fun p14 =>
  (Option.bind (HS.ldI p13 .i64 p14) fun p15 =>
  (Option.bind (y4) fun p16 =>
  (Option.bind (HS.sets p13 p16 [(.int .i64 (w64 (p15 + 1)))]) fun p17 =>
  (HS.endr p17 l none))))))
theorem J3_snd {D : Dp} {H : Hd} {k : Nat} {l : Nat} (hD : DSound Try.prog base W0 D) (hH : HSound Try.prog base W0 β0 H)  {y4 : (Option HA)} {S : HS} {p : HV × HS} {g0 g1 g2 g3 g5 g6 g7 g8 g9 g10 g11 g12 g13 g14 g15 g16 g17 g18 g19 g20 g21 g22 g23 g24 g25 g26 g27 g28 g29 g30 g31 g32 g33 g34 g35 g36 g37 g38 g39 g40 g41 g42 g43 g44 g45 g46 : HV} (h : J3 D H k l y4 S = some p) : HRun Try.prog base W0 β0 7 (some l) [.code c29, .beginRound, .code c30] ⟨[g0, g1, g2, g3, (.ptr y4), g5, g6, g7, g8, g9, g10, g11, g12, g13, g14, g15, g16, g17, g18, g19, g20, g21, g22, g23, g24, g25, g26, g27, g28, g29, g30, g31, g32, g33, g34, g35, g36, g37, g38, g39, g40, g41, g42, g43, g44, g45, g46], []⟩ S (fun v S1 => v = p.1 ∧ S1 = p.2) := by
  unfold J3 at h
  refine q_skipc rfl ?_
  obtain ⟨p13, hp13, h⟩ := bindo h
  refine q_begin hp13 ?_
  refine q_block rfl ?_
  refine q_region rfl rfl ?_
  obtain ⟨p14, hp14, h⟩ := bindo h
  obtain ⟨p15, hp15, h⟩ := bindo h
  refine qS 33 rfl (ok_load_s · sc3 (.tmp rfl) hp14 (ldI_out hp15)) ?_
  refine qS 34 rfl (ok_ibin · (.tmp rfl) (.int _ _) rfl) ?_
  obtain ⟨p16, hp16, h⟩ := bindo h
  obtain ⟨p17, hp17, h⟩ := bindo h
  refine qN rfl (ok_store_s (v := (.int .i64 (w64 (p15 + 1)))) · sz3 (.tmp rfl) hp16 (.tmp rfl) rfl hp17) ?_
  refine hr_region_end ?_
  try dsimp only [w0, w1, w2, w3]
  refine hr_inBlock ?_
  exact q_round_end h ⟨rfl, rfl⟩
def J5 (D : Dp) (H : Hd) (k : Nat) (y46 : Bool) (ds : List Nat) (S : HS) : Option ((Bool) × HS) :=
  (Option.bind (HS.leave S ds) fun p30 =>
  some (y46, p30))
theorem J5_snd {D : Dp} {H : Hd} {k : Nat} (hD : DSound Try.prog base W0 D) (hH : HSound Try.prog base W0 β0 H)  {y46 : Bool} {ds : List Nat} {S : HS} {p : (Bool) × HS} {g0 g1 g2 g3 g4 g5 g6 g7 g8 g9 g10 g11 g12 g13 g14 g15 g16 g17 g18 g19 g20 g21 g22 g23 g24 g25 g26 g27 g28 g29 g30 g31 g32 g33 g34 g35 g36 g37 g38 g39 g40 g41 g42 g43 g44 g45 : HV} (h : J5 D H k y46 ds S = some p) : HRun Try.prog base W0 β0 7 none [.inRegion r33 [12], .code c34] ⟨[g0, g1, g2, g3, g4, g5, g6, g7, g8, g9, g10, g11, g12, g13, g14, g15, g16, g17, g18, g19, g20, g21, g22, g23, g24, g25, g26, g27, g28, g29, g30, g31, g32, g33, g34, g35, g36, g37, g38, g39, g40, g41, g42, g43, g44, g45, (.bool y46)], ds⟩ S (fun v S1 => v = (.bool p.1) ∧ S1 = p.2) := by
  unfold J5 at h
  refine qS 0 rfl (ok_assign · (.tmp rfl)) ?_
  refine hr_region_end ?_
  try dsimp only [w0, w1, w2, w3]
  obtain ⟨p30, hp30, h⟩ := bindo h
  cases h
  exact q_ret rfl at_.at_ hp30 (res1 rfl rfl) ⟨rfl, rfl⟩
def J4 (D : Dp) (H : Hd) (k : Nat) (y1 : (Option HA)) (y41 : Bool) (ds : List Nat) (S : HS) : Option ((Bool) × HS) :=
  (if y41 = true then
  (Option.bind (sendq_Queue_Sent.f y1 S) fun p29 =>
  J5 D H k (decide (p29.1 = 4)) ds p29.2) else
  J5 D H k false ds S)
theorem J4_snd {D : Dp} {H : Hd} {k : Nat} (hD : DSound Try.prog base W0 D) (hH : HSound Try.prog base W0 β0 H)  {y1 : (Option HA)} {y41 : Bool} {ds : List Nat} {S : HS} {p : (Bool) × HS} {g0 g2 g3 g4 g5 g6 g7 g8 g9 g10 g11 g12 g13 g14 g15 g16 g17 g18 g19 g20 g21 g22 g23 g24 g25 g26 g27 g28 g29 g30 g31 g32 g33 g34 g35 g36 g37 g38 g39 g40 g42 g43 g44 g45 g46 : HV} (h : J4 D H k y1 y41 ds S = some p) : HRun Try.prog base W0 β0 7 none [.inRegion r33 [7, 8, 9, 10, 11, 12], .code c34] ⟨[g0, (.ptr y1), g2, g3, g4, g5, g6, g7, g8, g9, g10, g11, g12, g13, g14, g15, g16, g17, g18, g19, g20, g21, g22, g23, g24, g25, g26, g27, g28, g29, g30, g31, g32, g33, g34, g35, g36, g37, g38, g39, g40, (.bool y41), g42, g43, g44, g45, g46], ds⟩ S (fun v S1 => v = (.bool p.1) ∧ S1 = p.2) := by
  unfold J4 at h
  refine qS 42 rfl (ok_move · (.tmp rfl)) ?_
  try dsimp only [w0, w1, w2, w3]
  rcases ifc h with ⟨hc28, h⟩ | ⟨hc28, h⟩
  · refine qG 42 43 rfl hc28 (ok_move · (.tmp rfl)) ?_
    obtain ⟨p29, hp29, h⟩ := bindo h
    refine q_call_g (t := 42) (dst := some 44) rfl rfl rfl hc28 (.func _) (.cons (.tmp rfl) Evs.nil) (HInv.static sendq_Queue_Sent.at_ sendq_Queue_Sent.body (sendq_Queue_Sent.snd  hp29)) ?_
    rintro _ _ ⟨rfl, rfl⟩
    refine qG 42 45 rfl hc28 (ok_ibin · (.tmp rfl) (.int _ _) rfl) ?_
    refine qS 46 rfl (ok_pick_tt · (.tmp rfl) hc28 (.tmp rfl)) ?_
    try dsimp only [w0, w1, w2, w3]
    try dsimp only [w0, w1, w2, w3]
    exact J5_snd hD hH h
  · refine q_skip (dst := some 43) (t := 42) rfl rfl rfl (bfalse hc28) ?_
    refine q_skip (dst := some 44) (t := 42) rfl rfl rfl (bfalse hc28) ?_
    refine q_skip (dst := some 45) (t := 42) rfl rfl rfl (bfalse hc28) ?_
    refine qS 46 rfl (ok_pick_ff · (.tmp rfl) (bfalse hc28) (.bool _)) ?_
    try dsimp only [w0, w1, w2, w3]
    try dsimp only [w0, w1, w2, w3]
    exact J5_snd hD hH h
def J2 (D : Dp) (H : Hd) (k : Nat) (y1 : (Option HA)) (y26 : Bool) (ds : List Nat) (S : HS) : Option ((Bool) × HS) :=
  (if y26 = true then
  (Option.bind (HS.leave S ds) fun p6 =>
  some (false, p6)) else
  (Option.bind (sendq_Queue_Lines.f y1 S) fun p7 =>
  (Option.bind (HV.isNilFn p7.1) fun p8 =>
  (if (p8) = true then
  (Option.bind (HS.leave p7.2 ds) fun p10 =>
  some (false, p10)) else
  (letv (HS.new p7.2 (.cells 1 [[(.int .i64 0)]] true)) fun p11 =>
  (Option.bind (HS.sets p11 (HA.cell0 p7.2.next) [(.int .i64 0)]) fun p12 =>
  (Option.bind (D (Hd.set H (HS.next p12 + 1) fun vs T =>
  (Option.bind (HS.lp T (HS.next p12 + 1)) fun u20 =>
  (Option.bind (args1 vs) fun ar18 =>
  (Option.bind (dS ar18) fun p19 =>
  (J3 D H k (HS.next p12 + 1) (some (HA.cell0 p7.2.next)) T))))) p7.1 [.fn (.yield (HS.next p12 + 1)) [] []] (HS.new (HS.new p12 .defer) (.loop .ready none))) fun p21 =>
  (Option.bind (HS.finish p21.2 (HS.next p12 + 1)) fun p22 =>
  (Option.bind (pcode p22.1) fun n23 =>
  (if n23 = 0 then
  (Option.bind (HS.ldI p22.2 .i64 (HA.cell0 p7.2.next)) fun p25 =>
  (if p25 = 0 then
  (Option.bind (sendq_Queue_Len.f y1 p22.2) fun p27 =>
  J4 D H k y1 (decide (p27.1 = 3)) (HS.next p12 :: ds) p27.2) else
  J4 D H k y1 false (HS.next p12 :: ds) p22.2)) else
  none))))))))))
theorem J2_snd {D : Dp} {H : Hd} {k : Nat} (hD : DSound Try.prog base W0 D) (hH : HSound Try.prog base W0 β0 H)  {y1 : (Option HA)} {y26 : Bool} {ds : List Nat} {S : HS} {p : (Bool) × HS} {g0 g2 g3 g4 g5 g6 g7 g8 g9 g10 g11 g12 g13 g14 g15 g16 g17 g18 g19 g20 g21 g22 g23 g24 g25 g27 g28 g29 g30 g31 g32 g33 g34 g35 g36 g37 g38 g39 g40 g41 g42 g43 g44 g45 g46 : HV} (h : J2 D H k y1 y26 ds S = some p) : HRun Try.prog base W0 β0 7 none [.code c7, .code c12] ⟨[g0, (.ptr y1), g2, g3, g4, g5, g6, g7, g8, g9, g10, g11, g12, g13, g14, g15, g16, g17, g18, g19, g20, g21, g22, g23, g24, g25, (.bool y26), g27, g28, g29, g30, g31, g32, g33, g34, g35, g36, g37, g38, g39, g40, g41, g42, g43, g44, g45, g46], ds⟩ S (fun v S1 => v = (.bool p.1) ∧ S1 = p.2) := by
  unfold J2 at h
  rcases ifc h with ⟨hc5, h⟩ | ⟨hc5, h⟩
  · refine q_cond_t rfl (.tmp rfl) hc5 ?_
    refine q_seq rfl ?_
    refine q_region rfl rfl ?_
    refine qS 0 rfl (ok_assign · (.bool _)) ?_
    refine hr_region_end ?_
    try dsimp only [w0, w1, w2, w3]
    obtain ⟨p6, hp6, h⟩ := bindo h
    cases h
    exact q_ret rfl at_.at_ hp6 (res1 rfl rfl) ⟨rfl, rfl⟩
  · refine q_cond_f rfl (.tmp rfl) (bfalse hc5) ?_
    refine q_skipc rfl ?_
    refine q_seq rfl ?_
    refine q_region rfl rfl ?_
    refine qS 27 rfl (ok_move · (.tmp rfl)) ?_
    obtain ⟨p7, hp7, h⟩ := bindo h
    refine q_call (dst := some 28) rfl (.func _) (.cons (.tmp rfl) Evs.nil) (HInv.static sendq_Queue_Lines.at_ sendq_Queue_Lines.body (sendq_Queue_Lines.snd  hp7)) ?_
    rintro _ _ ⟨rfl, rfl⟩
    refine qS 3 rfl (ok_assign · (.tmp rfl)) ?_
    refine hr_region_end ?_
    try dsimp only [w0, w1, w2, w3]
    refine q_seq rfl ?_
    refine q_seq rfl ?_
    refine q_region rfl rfl ?_
    refine qS 29 rfl (ok_move · (.tmp rfl)) ?_
    obtain ⟨p8, hp8, h⟩ := bindo h
    refine qS 30 rfl (ok_nil_fn · tu50 (.tmp rfl) hp8 (.inl ⟨rfl, rfl⟩)) ?_
    refine hr_region_end ?_
    try dsimp only [w0, w1, w2, w3]
    rcases ifc h with ⟨hc9, h⟩ | ⟨hc9, h⟩
    · refine q_cond_t rfl (.tmp rfl) hc9 ?_
      refine q_seq rfl ?_
      refine q_region rfl rfl ?_
      refine qS 0 rfl (ok_assign · (.bool _)) ?_
      refine hr_region_end ?_
      try dsimp only [w0, w1, w2, w3]
      obtain ⟨p10, hp10, h⟩ := bindo h
      cases h
      exact q_ret rfl at_.at_ hp10 (res1 rfl rfl) ⟨rfl, rfl⟩
    · refine q_cond_f rfl (.tmp rfl) (bfalse hc9) ?_
      refine q_skipc rfl ?_
      refine q_seq rfl ?_
      refine q_region rfl rfl ?_
      obtain ⟨p11, hp11, h⟩ := leto h
      refine qS 4 rfl (ok_alloc_e · zi3 zr3 (by decide) rfl hp11) ?_
      obtain ⟨p12, hp12, h⟩ := bindo h
      refine qN rfl (ok_store_s (v := (.int .i64 0)) · sz3 (.tmp rfl) rfl (.int _ _) rfl hp12) ?_
      refine hr_region_end ?_
      try dsimp only [w0, w1, w2, w3]
      refine q_seq rfl ?_
      refine q_seq rfl ?_
      refine q_region rfl rfl ?_
      refine qS 31 rfl (ok_move · (.tmp rfl)) ?_
      refine hr_region_end ?_
      try dsimp only [w0, w1, w2, w3]
      refine q_block rfl ?_
      obtain ⟨p21, hp21, h⟩ := bindo h
      obtain ⟨p22, hp22, h⟩ := bindo h
      obtain ⟨n23, hn23, h⟩ := bindo h
      refine q_range (D := D) (H := H) rfl (.tmp rfl) hD hH hp21 hp22 ?_ ?_
      · intro β1 hle hLA vs T u T' hr
        obtain ⟨u20, hu20, hr⟩ := bindo hr
        obtain ⟨ar18, har18, hr⟩ := bindo hr
        obtain ⟨p19, hp19, hr⟩ := bindo hr
        rw [args1_out har18]
        refine q_yield2 hLA hu20 rfl rfl ?_
        rw [dS_out hp19]
        simp only [HAct.params, List.set_cons_zero, List.set_cons_succ]
        exact J3_snd hD (hH.up hle) hr
      · rcases ifc h with ⟨hc24, h⟩ | ⟨hc24, h⟩
        · rw [pcode0 hn23 hc24]
          simp only [jumped_none, jumped_some]
          refine hr_inBlock ?_
          refine q_seq rfl ?_
          refine q_region rfl rfl ?_
          obtain ⟨p25, hp25, h⟩ := bindo h
          refine qS 35 rfl (ok_load_s · sc3 (.tmp rfl) rfl (ldI_out hp25)) ?_
          refine qS 36 rfl (ok_ibin · (.tmp rfl) (.int _ _) rfl) ?_
          refine qS 37 rfl (ok_move · (.tmp rfl)) ?_
          rcases ifc h with ⟨hc26, h⟩ | ⟨hc26, h⟩
          · refine qG 37 38 rfl (decide_eq_true hc26) (ok_move · (.tmp rfl)) ?_
            try dsimp only [w0, w1, w2, w3]
            obtain ⟨p27, hp27, h⟩ := bindo h
            refine q_call_g (t := 37) (dst := some 39) rfl rfl rfl (decide_eq_true hc26) (.func _) (.cons (.tmp rfl) Evs.nil) (HInv.static sendq_Queue_Len.at_ sendq_Queue_Len.body (sendq_Queue_Len.snd  hp27)) ?_
            rintro _ _ ⟨rfl, rfl⟩
            refine qG 37 40 rfl (decide_eq_true hc26) (ok_ibin · (.tmp rfl) (.int _ _) rfl) ?_
            refine qS 41 rfl (ok_pick_tt · (.tmp rfl) (decide_eq_true hc26) (.tmp rfl)) ?_
            try dsimp only [w0, w1, w2, w3]
            exact J4_snd hD hH h
          · refine q_skip (dst := some 38) (t := 37) rfl rfl rfl (decide_eq_false hc26) ?_
            try dsimp only [w0, w1, w2, w3]
            refine q_skip (dst := some 39) (t := 37) rfl rfl rfl (decide_eq_false hc26) ?_
            refine q_skip (dst := some 40) (t := 37) rfl rfl rfl (decide_eq_false hc26) ?_
            refine qS 41 rfl (ok_pick_ff · (.tmp rfl) (decide_eq_false hc26) (.bool _)) ?_
            try dsimp only [w0, w1, w2, w3]
            exact J4_snd hD hH h
        · cases h
def J1 (D : Dp) (H : Hd) (k : Nat) (y1 : (Option HA)) (y20 : Bool) (ds : List Nat) (S : HS) : Option ((Bool) × HS) :=
  (if y20 = true then
  J2 D H k y1 true ds S else
  (Option.bind (sendq_Queue_Drain.f k y1 4 S) fun p31 =>
  (Option.bind (HS.text p31.2 p31.1) fun p32 =>
  J2 D H k y1 (!decide (p32 = ([97, 13, 10, 98] : List UInt8))) ds p31.2)))
theorem J1_snd {D : Dp} {H : Hd} {k : Nat} (hD : DSound Try.prog base W0 D) (hH : HSound Try.prog base W0 β0 H)  {y1 : (Option HA)} {y20 : Bool} {ds : List Nat} {S : HS} {p : (Bool) × HS} {g0 g2 g3 g4 g5 g6 g7 g8 g9 g10 g11 g12 g13 g14 g15 g16 g17 g18 g19 g21 g22 g23 g24 g25 g26 g27 g28 g29 g30 g31 g32 g33 g34 g35 g36 g37 g38 g39 g40 g41 g42 g43 g44 g45 g46 : HV} (h : J1 D H k y1 y20 ds S = some p) : HRun Try.prog base W0 β0 7 none [.inRegion r6 [12, 13, 14, 15, 16, 17], .code c7, .code c12] ⟨[g0, (.ptr y1), g2, g3, g4, g5, g6, g7, g8, g9, g10, g11, g12, g13, g14, g15, g16, g17, g18, g19, (.bool y20), g21, g22, g23, g24, g25, g26, g27, g28, g29, g30, g31, g32, g33, g34, g35, g36, g37, g38, g39, g40, g41, g42, g43, g44, g45, g46], ds⟩ S (fun v S1 => v = (.bool p.1) ∧ S1 = p.2) := by
  unfold J1 at h
  refine qS 21 rfl (ok_move · (.tmp rfl)) ?_
  rcases ifc h with ⟨hc4, h⟩ | ⟨hc4, h⟩
  · refine q_skip (dst := some 22) (t := 21) rfl rfl rfl hc4 ?_
    refine q_skip (dst := some 23) (t := 21) rfl rfl rfl hc4 ?_
    refine q_skip (dst := some 24) (t := 21) rfl rfl rfl hc4 ?_
    try dsimp only [w0, w1, w2, w3]
    refine q_skip (dst := some 25) (t := 21) rfl rfl rfl hc4 ?_
    refine qS 26 rfl (ok_pick_tt · (.tmp rfl) hc4 (.bool _)) ?_
    refine hr_region_end ?_
    try dsimp only [w0, w1, w2, w3]
    try dsimp only [w0, w1, w2, w3]
    exact J2_snd hD hH h
  · refine qG 21 22 rfl (bfalse hc4) (ok_move · (.tmp rfl)) ?_
    obtain ⟨p31, hp31, h⟩ := bindo h
    refine q_call_g (t := 21) (dst := some 23) rfl rfl rfl (bfalse hc4) (.func _) (.cons (.tmp rfl) (.cons (.int _ _) Evs.nil)) (HInv.static sendq_Queue_Drain.at_ sendq_Queue_Drain.body (sendq_Queue_Drain.snd  hp31)) ?_
    rintro _ _ ⟨rfl, rfl⟩
    obtain ⟨p32, hp32, h⟩ := bindo h
    refine qG 21 24 rfl (bfalse hc4) (ok_str_of_bytes (s := p31.1) · tu31 tu5 tu9 (.tmp rfl) hp32) ?_
    try dsimp only [w0, w1, w2, w3]
    refine qG 21 25 rfl (bfalse hc4) (ok_sbin · (.tmp rfl) (.str _) rfl) ?_
    refine qS 26 rfl (ok_pick_ff · (.tmp rfl) (bfalse hc4) (.tmp rfl)) ?_
    refine hr_region_end ?_
    try dsimp only [w0, w1, w2, w3]
    try dsimp only [w0, w1, w2, w3]
    exact J2_snd hD hH h
def J0 (D : Dp) (H : Hd) (k : Nat) (y1 : (Option HA)) (y15 : Bool) (ds : List Nat) (S : HS) : Option ((Bool) × HS) :=
  (if y15 = true then
  J1 D H k y1 true ds S else
  (Option.bind (sendq_Queue_Push.f k y1 ([98, 99] : List UInt8) S) fun p33 =>
  J1 D H k y1 (!p33.1) ds p33.2))
theorem J0_snd {D : Dp} {H : Hd} {k : Nat} (hD : DSound Try.prog base W0 D) (hH : HSound Try.prog base W0 β0 H)  {y1 : (Option HA)} {y15 : Bool} {ds : List Nat} {S : HS} {p : (Bool) × HS} {g0 g2 g3 g4 g5 g6 g7 g8 g9 g10 g11 g12 g13 g14 g16 g17 g18 g19 g20 g21 g22 g23 g24 g25 g26 g27 g28 g29 g30 g31 g32 g33 g34 g35 g36 g37 g38 g39 g40 g41 g42 g43 g44 g45 g46 : HV} (h : J0 D H k y1 y15 ds S = some p) : HRun Try.prog base W0 β0 7 none [.inRegion r6 [7, 8, 9, 10, 11, 12, 13, 14, 15, 16, 17], .code c7, .code c12] ⟨[g0, (.ptr y1), g2, g3, g4, g5, g6, g7, g8, g9, g10, g11, g12, g13, g14, (.bool y15), g16, g17, g18, g19, g20, g21, g22, g23, g24, g25, g26, g27, g28, g29, g30, g31, g32, g33, g34, g35, g36, g37, g38, g39, g40, g41, g42, g43, g44, g45, g46], ds⟩ S (fun v S1 => v = (.bool p.1) ∧ S1 = p.2) := by
  unfold J0 at h
  refine qS 16 rfl (ok_move · (.tmp rfl)) ?_
  try dsimp only [w0, w1, w2, w3]
  rcases ifc h with ⟨hc3, h⟩ | ⟨hc3, h⟩
  · refine q_skip (dst := some 17) (t := 16) rfl rfl rfl hc3 ?_
    refine q_skip (dst := some 18) (t := 16) rfl rfl rfl hc3 ?_
    refine q_skip (dst := some 19) (t := 16) rfl rfl rfl hc3 ?_
    refine qS 20 rfl (ok_pick_tt · (.tmp rfl) hc3 (.bool _)) ?_
    try dsimp only [w0, w1, w2, w3]
    try dsimp only [w0, w1, w2, w3]
    exact J1_snd hD hH h
  · refine qG 16 17 rfl (bfalse hc3) (ok_move · (.tmp rfl)) ?_
    obtain ⟨p33, hp33, h⟩ := bindo h
    refine q_call_g (t := 16) (dst := some 18) rfl rfl rfl (bfalse hc3) (.func _) (.cons (.tmp rfl) (.cons (.str _) Evs.nil)) (HInv.static sendq_Queue_Push.at_ sendq_Queue_Push.body (sendq_Queue_Push.snd  hp33)) ?_
    rintro _ _ ⟨rfl, rfl⟩
    refine qG 16 19 rfl (bfalse hc3) (ok_not · (.tmp rfl)) ?_
    refine qS 20 rfl (ok_pick_ff · (.tmp rfl) (bfalse hc3) (.tmp rfl)) ?_
    try dsimp only [w0, w1, w2, w3]
    try dsimp only [w0, w1, w2, w3]
    exact J1_snd hD hH h
def f (D : Dp) (H : Hd) (k : Nat) (S : HS) : Option ((Bool) × HS) :=
  (Option.bind (sendq_New.f 512 S) fun p1 =>
  (if (!decide (p1.1.2 = 0)) = true then
  J0 D H k p1.1.1 true [] p1.2 else
  (Option.bind (sendq_Queue_Push.f k p1.1.1 ([97] : List UInt8) p1.2) fun p34 =>
  J0 D H k p1.1.1 (!p34.1) [] p34.2)))
theorem snd {D : Dp} {H : Hd} {k : Nat} {S : HS} (hD : DSound Try.prog base W0 D) (hH : HSound Try.prog base W0 β0 H)  {p : (Bool) × HS} (h : f D H k S = some p) : HCall Try.prog base W0 β0 7 [] S (fun v S1 => v = (.bool p.1) ∧ S1 = p.2) := by
  unfold f at h
  refine HCall.of_run at_.at_ body ?_
  show HRun Try.prog base W0 β0 7 none [.code c0] ⟨[τ, τ, τ, τ, τ, τ, τ, τ, τ, τ, τ, τ, τ, τ, τ, τ, τ, τ, τ, τ, τ, τ, τ, τ, τ, τ, τ, τ, τ, τ, τ, τ, τ, τ, τ, τ, τ, τ, τ, τ, τ, τ, τ, τ, τ, τ, τ], []⟩ S _
  refine q_seq rfl ?_
  refine q_region rfl rfl ?_
  refine qS 0 rfl (ok_assign · (.bool _)) ?_
  refine hr_region_end ?_
  try dsimp only [w0, w1, w2, w3]
  refine q_seq rfl ?_
  refine q_region rfl rfl ?_
  obtain ⟨p1, hp1, h⟩ := bindo h
  refine q_call (dst := some 6) rfl (.func _) (.cons (.int _ _) Evs.nil) (HInv.static sendq_New.at_ sendq_New.body (sendq_New.snd  hp1)) ?_
  rintro _ _ ⟨rfl, rfl⟩
  refine qS 5 rfl (ok_move · (.tmp rfl)) ?_
  refine qS 7 rfl (ok_extract · (.tmp rfl) rfl) ?_
  refine qS 8 rfl (ok_extract · (.tmp rfl) rfl) ?_
  try dsimp only [w0, w1, w2, w3]
  refine qS 1 rfl (ok_assign · (.tmp rfl)) ?_
  refine qS 2 rfl (ok_assign · (.tmp rfl)) ?_
  refine hr_region_end ?_
  try dsimp only [w0, w1, w2, w3]
  refine q_seq rfl ?_
  refine q_seq rfl ?_
  refine q_region rfl rfl ?_
  refine qS 9 rfl (ok_move · (.tmp rfl)) ?_
  refine qS 10 rfl (ok_ibin · (.tmp rfl) (.int _ _) rfl) ?_
  refine qS 11 rfl (ok_move · (.tmp rfl)) ?_
  rcases ifc h with ⟨hc2, h⟩ | ⟨hc2, h⟩
  · refine q_skip (dst := some 12) (t := 11) rfl rfl rfl hc2 ?_
    try dsimp only [w0, w1, w2, w3]
    refine q_skip (dst := some 13) (t := 11) rfl rfl rfl hc2 ?_
    refine q_skip (dst := some 14) (t := 11) rfl rfl rfl hc2 ?_
    refine qS 15 rfl (ok_pick_tt · (.tmp rfl) hc2 (.bool _)) ?_
    try dsimp only [w0, w1, w2, w3]
    exact J0_snd hD hH h
  · refine qG 11 12 rfl (bfalse hc2) (ok_move · (.tmp rfl)) ?_
    try dsimp only [w0, w1, w2, w3]
    obtain ⟨p34, hp34, h⟩ := bindo h
    refine q_call_g (t := 11) (dst := some 13) rfl rfl rfl (bfalse hc2) (.func _) (.cons (.tmp rfl) (.cons (.str _) Evs.nil)) (HInv.static sendq_Queue_Push.at_ sendq_Queue_Push.body (sendq_Queue_Push.snd  hp34)) ?_
    rintro _ _ ⟨rfl, rfl⟩
    refine qG 11 14 rfl (bfalse hc2) (ok_not · (.tmp rfl)) ?_
    refine qS 15 rfl (ok_pick_ff · (.tmp rfl) (bfalse hc2) (.tmp rfl)) ?_
    try dsimp only [w0, w1, w2, w3]
    exact J0_snd hD hH h
end
end rollcalllaw08_awake
namespace rollcallref08_Queue_Waits
theorem at_ : FnAt Try.prog 16 Try.f16 := ⟨Try.func16, by kernel_rfl⟩
noncomputable def d0 := (Try.f16.body).getD .skip
noncomputable def r1 := kR (kA d0)
noncomputable def r3 := kR (kA (kB d0))
noncomputable def c0 : Code := .seq (.region 0 r1 false) (.seq (.region 1 r3 true) .ret)
theorem body : Try.f16.body = some c0 := by kernel_rfl
section
variable {base : Nat} {W0 : World} {β0 : Bt}
def f (x0 : (Option HA)) (S : HS) : Option (((List UInt8)) × HS) :=
  (Option.bind (x0) fun p1 =>
  (Option.bind (HS.ldS S (HA.fld p1 2)) fun p2 =>
  (Option.bind (x0) fun p3 =>
  (Option.bind (HS.ldI S .i64 (HA.fld p3 3)) fun p4 =>
  (if 0 ≤ (p4 : Int) ∧ (p4 : Int) ≤ (List.length p2 : Int) ∧ ((List.length p2 : Int) : Int) ≤ (List.length p2 : Int) then
  some ((ssub p2 p4 (List.length p2 : Int)), S) else none)))))
theorem snd {x0 : (Option HA)} {S : HS}  {p : ((List UInt8)) × HS} (h : f x0 S = some p) : HCall Try.prog base W0 β0 16 [(.ptr x0)] S (fun v S1 => v = (.str p.1) ∧ S1 = p.2) := by
  unfold f at h
  refine HCall.of_run at_.at_ body ?_
  show HRun Try.prog base W0 β0 16 none [.code c0] ⟨[(.ptr x0), τ, τ, τ, τ, τ, τ, τ, τ, τ, τ, τ], []⟩ S _
  refine q_seq rfl ?_
  refine q_region rfl rfl ?_
  refine qS 2 rfl (ok_assign · (.str _)) ?_
  refine hr_region_end ?_
  try dsimp only [w0, w1, w2, w3]
  refine q_seq rfl ?_
  refine x_start (cls := [0, 0, 0, 1, 0, 0, 0, 1, 0, 0]) (rk := [0, 1, 2, 3, 4, 5, 6, 7, 8, 9]) rfl (by kernel_rfl) ?_
  refine yf 3 [0] rfl (ok_move · (.tmp rfl)) ?_
  obtain ⟨p1, hp1, h⟩ := bindo h
  refine yf 4 [3] rfl (ok_nilCheck_p · (.tmp rfl) hp1) ?_
  refine yf 5 [4] rfl (ok_fieldAddr_s · fi40_2 (by decide) (.tmp rfl) rfl) ?_
  obtain ⟨p2, hp2, h⟩ := bindo h
  refine yr 6 [5] rfl (ok_load_s · sc9 (.tmp rfl) rfl (ldS_out hp2)) ?_
  try dsimp only [w0, w1, w2, w3]
  refine yf 7 [0] rfl (ok_move · (.tmp rfl)) ?_
  obtain ⟨p3, hp3, h⟩ := bindo h
  refine yf 8 [7] rfl (ok_nilCheck_p · (.tmp rfl) hp3) ?_
  refine yf 9 [8] rfl (ok_fieldAddr_s · fi40_3 (by decide) (.tmp rfl) rfl) ?_
  obtain ⟨p4, hp4, h⟩ := bindo h
  refine yr 10 [9] rfl (ok_load_s · sc3 (.tmp rfl) rfl (ldI_out hp4)) ?_
  try dsimp only [w0, w1, w2, w3]
  obtain ⟨hg5, h⟩ := gd h
  refine yf 11 [6, 10] rfl (ok_slice_str (kl := .i64) (kh := .i64) (l := p4) (h := (List.length p2 : Int)) · tu9 (.tmp rfl) (.inr ⟨_, rfl, (.tmp rfl)⟩) (.inl ⟨rfl, rfl⟩) hg5.1 hg5.2.1 hg5.2.2) ?_
  refine yf 2 [11] rfl (ok_assign · (.tmp rfl)) ?_
  refine x_rest rfl ?_
  refine hr_region_end ?_
  try dsimp only [w0, w1, w2, w3]
  cases h
  exact q_ret rfl at_.at_ rfl (res1 rfl rfl) ⟨rfl, rfl⟩
end
end rollcallref08_Queue_Waits
namespace rollcallref08_Queue_Drain
theorem at_ : FnAt Try.prog 13 Try.f13 := ⟨Try.func13, by kernel_rfl⟩
noncomputable def d0 := (Try.f13.body).getD .skip
noncomputable def r1 := kR (kA d0)
noncomputable def r3 := kR (kA (kB d0))
noncomputable def r6 := kR (kA (kA (kB (kB d0))))
noncomputable def r8 := kR (kA (kB (kA (kB (kB d0)))))
noncomputable def d10 := kB (kB (kB d0))
noncomputable def r12 := kR (kA (kA d10))
noncomputable def r14 := kR (kA (kB (kA d10)))
noncomputable def r17 := kR (kA (kB d10))
noncomputable def r19 := kR (kA (kB (kB d10)))
noncomputable def c16 : Code := .seq (.region 6 r17 false) (.seq (.region 7 r19 false) .ret)
noncomputable def c10 : Code := .seq (.seq (.region 4 r12 false) (.cond (.tmp 13) (.region 5 r14 false) .skip)) c16
noncomputable def c0 : Code := .seq (.region 0 r1 false) (.seq (.region 1 r3 false) (.seq (.seq (.region 2 r6 false) (.cond (.tmp 9) (.region 3 r8 false) .skip)) c10))
theorem body : Try.f13.body = some c0 := by kernel_rfl
section
variable {base : Nat} {W0 : World} {β0 : Bt}
def J1  (y0 : (Option HA)) (y1 : Int) (y5 : (List UInt8)) (S : HS) : Option (((List UInt8)) × HS) :=
  (Option.bind (y0) fun p4 =>
  (Option.bind (HS.ldI S .i64 (HA.fld p4 3)) fun p5 =>
  (Option.bind (y0) fun p6 =>
  (Option.bind (HS.sets S (HA.fld p6 3) [(.int .i64 (w64 (p5 + y1)))]) fun p7 =>
  (if 0 ≤ (0 : Int) ∧ (0 : Int) ≤ y1 ∧ (y1 : Int) ≤ (List.length y5 : Int) then
  some ((ssub y5 0 y1), p7) else none)))))
theorem J1_snd   {y0 : (Option HA)} {y1 : Int} {y5 : (List UInt8)} {S : HS} {p : ((List UInt8)) × HS} {g2 g3 g4 g6 g7 g8 g9 g10 g11 g12 g13 g14 g15 g16 g17 g18 g19 g20 g21 g22 g23 g24 g25 g26 g27 : HV} (h : J1  y0 y1 y5 S = some p) : HRun Try.prog base W0 β0 13 none [.code c16] ⟨[(.ptr y0), (.int .i64 y1), g2, g3, g4, (.str y5), g6, g7, g8, g9, g10, g11, g12, g13, g14, g15, g16, g17, g18, g19, g20, g21, g22, g23, g24, g25, g26, g27], []⟩ S (fun v S1 => v = (.str p.1) ∧ S1 = p.2) := by
  unfold J1 at h
  refine q_seq rfl ?_
  refine q_region rfl rfl ?_
  refine qS 16 rfl (ok_move · (.tmp rfl)) ?_
  refine qS 17 rfl (ok_move · (.tmp rfl)) ?_
  obtain ⟨p4, hp4, h⟩ := bindo h
  refine qS 18 rfl (ok_nilCheck_p · (.tmp rfl) hp4) ?_
  refine qS 19 rfl (ok_fieldAddr_s · fi40_3 (by decide) (.tmp rfl) rfl) ?_
  try dsimp only [w0, w1, w2, w3]
  obtain ⟨p5, hp5, h⟩ := bindo h
  refine qS 20 rfl (ok_load_s · sc3 (.tmp rfl) rfl (ldI_out hp5)) ?_
  refine qS 21 rfl (ok_move · (.tmp rfl)) ?_
  refine qS 22 rfl (ok_ibin · (.tmp rfl) (.tmp rfl) rfl) ?_
  obtain ⟨p6, hp6, h⟩ := bindo h
  refine qS 23 rfl (ok_nilCheck_p · (.tmp rfl) hp6) ?_
  try dsimp only [w0, w1, w2, w3]
  refine qS 24 rfl (ok_fieldAddr_s · fi40_3 (by decide) (.tmp rfl) rfl) ?_
  obtain ⟨p7, hp7, h⟩ := bindo h
  refine qN rfl (ok_store_s (v := (.int .i64 (w64 (p5 + y1)))) · sz3 (.tmp rfl) rfl (.tmp rfl) rfl hp7) ?_
  refine hr_region_end ?_
  try dsimp only [w0, w1, w2, w3]
  refine q_seq rfl ?_
  refine q_region rfl rfl ?_
  refine qS 25 rfl (ok_move · (.tmp rfl)) ?_
  refine qS 26 rfl (ok_move · (.tmp rfl)) ?_
  obtain ⟨hg8, h⟩ := gd h
  refine qS 27 rfl (ok_slice_str (kl := .i64) (kh := .i64) (l := 0) (h := y1) · tu9 (.tmp rfl) (.inl ⟨rfl, rfl⟩) (.inr ⟨_, rfl, (.tmp rfl)⟩) hg8.1 hg8.2.1 hg8.2.2) ?_
  refine qS 4 rfl (ok_assign · (.tmp rfl)) ?_
  refine hr_region_end ?_
  try dsimp only [w0, w1, w2, w3]
  cases h
  exact q_ret rfl at_.at_ rfl (res1 rfl rfl) ⟨rfl, rfl⟩
def J0  (y0 : (Option HA)) (y1 : Int) (y5 : (List UInt8)) (S : HS) : Option (((List UInt8)) × HS) :=
  (if y1 > (List.length y5 : Int) then
  J1 y0 (List.length y5 : Int) y5 S else
  J1 y0 y1 y5 S)
theorem J0_snd   {y0 : (Option HA)} {y1 : Int} {y5 : (List UInt8)} {S : HS} {p : ((List UInt8)) × HS} {g2 g3 g4 g6 g7 g8 g9 g10 g11 g12 g13 g14 g15 g16 g17 g18 g19 g20 g21 g22 g23 g24 g25 g26 g27 : HV} (h : J0  y0 y1 y5 S = some p) : HRun Try.prog base W0 β0 13 none [.code c10] ⟨[(.ptr y0), (.int .i64 y1), g2, g3, g4, (.str y5), g6, g7, g8, g9, g10, g11, g12, g13, g14, g15, g16, g17, g18, g19, g20, g21, g22, g23, g24, g25, g26, g27], []⟩ S (fun v S1 => v = (.str p.1) ∧ S1 = p.2) := by
  unfold J0 at h
  refine q_seq rfl ?_
  refine q_seq rfl ?_
  refine q_region rfl rfl ?_
  refine qS 10 rfl (ok_move · (.tmp rfl)) ?_
  refine qS 11 rfl (ok_move · (.tmp rfl)) ?_
  refine qS 12 rfl (ok_len_str · rfl tu9 (.tmp rfl)) ?_
  refine qS 13 rfl (ok_ibin · (.tmp rfl) (.tmp rfl) rfl) ?_
  refine hr_region_end ?_
  try dsimp only [w0, w1, w2, w3]
  rcases ifc h with ⟨hc3, h⟩ | ⟨hc3, h⟩
  · refine q_cond_t rfl (.tmp rfl) (decide_eq_true hc3) ?_
    refine q_region rfl rfl ?_
    refine qS 14 rfl (ok_move · (.tmp rfl)) ?_
    refine qS 15 rfl (ok_len_str · rfl tu9 (.tmp rfl)) ?_
    refine qS 1 rfl (ok_assign · (.tmp rfl)) ?_
    refine hr_region_end ?_
    try dsimp only [w0, w1, w2, w3]
    try dsimp only [w0, w1, w2, w3]
    exact J1_snd  h
  · refine q_cond_f rfl (.tmp rfl) (decide_eq_false hc3) ?_
    refine q_skipc rfl ?_
    try dsimp only [w0, w1, w2, w3]
    exact J1_snd  h
def f (x0 : (Option HA)) (x1 : Int) (S : HS) : Option (((List UInt8)) × HS) :=
  (Option.bind (rollcallref08_Queue_Waits.f x0 S) fun p1 =>
  (if x1 < 0 then
  J0 x0 0 p1.1 p1.2 else
  J0 x0 x1 p1.1 p1.2))
theorem snd {x0 : (Option HA)} {x1 : Int} {S : HS}  {p : ((List UInt8)) × HS} (h : f x0 x1 S = some p) : HCall Try.prog base W0 β0 13 [(.ptr x0), (.int .i64 x1)] S (fun v S1 => v = (.str p.1) ∧ S1 = p.2) := by
  unfold f at h
  refine HCall.of_run at_.at_ body ?_
  show HRun Try.prog base W0 β0 13 none [.code c0] ⟨[(.ptr x0), (.int .i64 x1), τ, τ, τ, τ, τ, τ, τ, τ, τ, τ, τ, τ, τ, τ, τ, τ, τ, τ, τ, τ, τ, τ, τ, τ, τ, τ], []⟩ S _
  refine q_seq rfl ?_
  refine q_region rfl rfl ?_
  refine qS 4 rfl (ok_assign · (.str _)) ?_
  refine hr_region_end ?_
  try dsimp only [w0, w1, w2, w3]
  refine q_seq rfl ?_
  refine q_region rfl rfl ?_
  refine qS 6 rfl (ok_move · (.tmp rfl)) ?_
  obtain ⟨p1, hp1, h⟩ := bindo h
  refine q_call (dst := some 7) rfl (.func _) (.cons (.tmp rfl) Evs.nil) (HInv.static rollcallref08_Queue_Waits.at_ rollcallref08_Queue_Waits.body (rollcallref08_Queue_Waits.snd  hp1)) ?_
  rintro _ _ ⟨rfl, rfl⟩
  refine qS 5 rfl (ok_assign · (.tmp rfl)) ?_
  refine hr_region_end ?_
  try dsimp only [w0, w1, w2, w3]
  refine q_seq rfl ?_
  refine q_seq rfl ?_
  refine q_region rfl rfl ?_
  refine qS 8 rfl (ok_move · (.tmp rfl)) ?_
  refine qS 9 rfl (ok_ibin · (.tmp rfl) (.int _ _) rfl) ?_
  refine hr_region_end ?_
  try dsimp only [w0, w1, w2, w3]
  rcases ifc h with ⟨hc2, h⟩ | ⟨hc2, h⟩
  · refine q_cond_t rfl (.tmp rfl) (decide_eq_true hc2) ?_
    refine q_region rfl rfl ?_
    refine qS 1 rfl (ok_assign · (.int _ _)) ?_
    refine hr_region_end ?_
    try dsimp only [w0, w1, w2, w3]
    try dsimp only [w0, w1, w2, w3]
    exact J0_snd  h
  · refine q_cond_f rfl (.tmp rfl) (decide_eq_false hc2) ?_
    refine q_skipc rfl ?_
    try dsimp only [w0, w1, w2, w3]
    exact J0_snd  h
end
end rollcallref08_Queue_Drain
namespace rollcallref03_in
theorem at_ : FnAt Try.prog 29 Try.f29 := ⟨Try.func29, by kernel_rfl⟩
noncomputable def d0 := (Try.f29.body).getD .skip
noncomputable def r1 := kR (kA d0)
noncomputable def r4 := kR (kA (kA (kB d0)))
noncomputable def d5 := kB (kA (kB d0))
noncomputable def r9 := kR (kA (kA (kA (kA d5))))
noncomputable def d15 := kA (kA (kB (kA (kA d5))))
noncomputable def r16 := kR (kA d15)
noncomputable def r19 := kR (kA (kA (kB d15)))
noncomputable def r22 := kR (kB (kB (kA (kA d5))))
noncomputable def r24 := kR (kA (kB (kB d0)))
noncomputable def c23 : Code := .seq (.region 6 r24 false) .ret
noncomputable def c7 : Code := .seq (.seq (.region 2 r9 false) (.cond (.tmp 9) .skip (.exit 0))) (.seq (.block 1 (.seq (.region 4 r16 false) (.cond (.tmp 16) (.seq (.region 5 r19 false) .ret) .skip))) (.region 3 r22 false))
noncomputable def c0 : Code := .seq (.region 0 r1 false) (.seq (.seq (.region 1 r4 false) (.block 0 (.loop c7))) c23)
theorem body : Try.f29.body = some c0 := by kernel_rfl
section
variable {base : Nat} {W0 : World} {β0 : Bt}
def L0 (k : Nat) : Nat → (List UInt8) → Int → Int → Option (Bool)
  | 0, _, _, _ => none
  | n + 1, y0, y1, y5 =>
    (if y5 < (List.length y0 : Int) then
    (Option.bind (sat y0 y5) fun p2 =>
    (if (UInt8.toNat p2 : Int) = y1 then
    some true else
    (L0 k n) y0 y1 (w64 (y5 + 1)))) else
    some false)
theorem L0_snd {k : Nat}  : ∀ {n : Nat} ⦃y0 : (List UInt8)⦄ ⦃y1 : Int⦄ ⦃y5 : Int⦄ ⦃S : HS⦄ ⦃p : Bool⦄ ⦃g2 g3 g4 g6 g7 g8 g9 g10 g11 g12 g13 g14 g15 g16 : HV⦄, L0 k n y0 y1 y5 = some p → HRun Try.prog base W0 β0 29 none [.inLoop c7, .inBlock 0, .code c23] ⟨[(.str y0), (.int .u8 y1), g2, g3, g4, (.int .i64 y5), g6, g7, g8, g9, g10, g11, g12, g13, g14, g15, g16], []⟩ S (fun v S1 => v = (.bool p) ∧ S1 = S) := by
  intro n
  induction n with
  | zero => intro _ _ _ _ _ _ _ _ _ _ _ _ _ _ _ _ _ _ _ h; cases h
  | succ n ih =>
    intro y0 y1 y5 S p g2 g3 g4 g6 g7 g8 g9 g10 g11 g12 g13 g14 g15 g16 h
    simp only [L0] at h
    refine hr_inLoop ?_
    refine q_seq rfl ?_
    refine q_seq rfl ?_
    refine q_region rfl rfl ?_
    refine qS 6 rfl (ok_move · (.tmp rfl)) ?_
    refine qS 7 rfl (ok_move · (.tmp rfl)) ?_
    refine qS 8 rfl (ok_len_str · rfl tu9 (.tmp rfl)) ?_
    refine qS 9 rfl (ok_ibin · (.tmp rfl) (.tmp rfl) rfl) ?_
    refine hr_region_end ?_
    try dsimp only [w0, w1, w2, w3]
    rcases ifc h with ⟨hc1, h⟩ | ⟨hc1, h⟩
    · refine q_cond_t rfl (.tmp rfl) (decide_eq_true hc1) ?_
      refine q_skipc rfl ?_
      refine q_seq rfl ?_
      refine q_block rfl ?_
      refine q_seq rfl ?_
      refine q_region rfl rfl ?_
      refine qS 12 rfl (ok_move · (.tmp rfl)) ?_
      refine qS 13 rfl (ok_move · (.tmp rfl)) ?_
      obtain ⟨p2, hp2, h⟩ := bindo h
      refine qS 14 rfl (ok_index_s · tu9 (.tmp rfl) (.tmp rfl) hp2) ?_
      refine qS 15 rfl (ok_move · (.tmp rfl)) ?_
      try dsimp only [w0, w1, w2, w3]
      refine qS 16 rfl (ok_ibin · (.tmp rfl) (.tmp rfl) rfl) ?_
      refine hr_region_end ?_
      try dsimp only [w0, w1, w2, w3]
      rcases ifc h with ⟨hc3, h⟩ | ⟨hc3, h⟩
      · refine q_cond_t rfl (.tmp rfl) (decide_eq_true hc3) ?_
        refine q_seq rfl ?_
        refine q_region rfl rfl ?_
        refine qS 4 rfl (ok_assign · (.bool _)) ?_
        refine hr_region_end ?_
        try dsimp only [w0, w1, w2, w3]
        cases h
        exact q_ret rfl at_.at_ rfl (res1 rfl rfl) ⟨rfl, rfl⟩
      · refine q_cond_f rfl (.tmp rfl) (decide_eq_false hc3) ?_
        refine q_skipc rfl ?_
        refine hr_inBlock ?_
        refine q_region rfl rfl ?_
        refine qS 10 rfl (ok_move · (.tmp rfl)) ?_
        refine qS 11 rfl (ok_ibin · (.tmp rfl) (.int _ _) rfl) ?_
        refine qS 5 rfl (ok_assign · (.tmp rfl)) ?_
        refine hr_region_end ?_
        try dsimp only [w0, w1, w2, w3]
        try dsimp only [w0, w1, w2, w3]
        exact ih h
    · refine q_cond_f rfl (.tmp rfl) (decide_eq_false hc1) ?_
      refine q_exit rfl rfl ?_
      refine q_seq rfl ?_
      refine q_region rfl rfl ?_
      refine qS 4 rfl (ok_assign · (.bool _)) ?_
      refine hr_region_end ?_
      try dsimp only [w0, w1, w2, w3]
      cases h
      exact q_ret rfl at_.at_ rfl (res1 rfl rfl) ⟨rfl, rfl⟩
def f (k : Nat) (x0 : (List UInt8)) (x1 : Int) : Option (Bool) :=
  L0 k k x0 x1 0
theorem snd {k : Nat} {x0 : (List UInt8)} {x1 : Int} {S : HS}  {p : Bool} (h : f k x0 x1 = some p) : HCall Try.prog base W0 β0 29 [(.str x0), (.int .u8 x1)] S (fun v S1 => v = (.bool p) ∧ S1 = S) := by
  unfold f at h
  refine HCall.of_run at_.at_ body ?_
  show HRun Try.prog base W0 β0 29 none [.code c0] ⟨[(.str x0), (.int .u8 x1), τ, τ, τ, τ, τ, τ, τ, τ, τ, τ, τ, τ, τ, τ, τ], []⟩ S _
  refine q_seq rfl ?_
  refine q_region rfl rfl ?_
  refine qS 4 rfl (ok_assign · (.bool _)) ?_
  refine hr_region_end ?_
  try dsimp only [w0, w1, w2, w3]
  refine q_seq rfl ?_
  refine q_seq rfl ?_
  refine q_region rfl rfl ?_
  refine qS 5 rfl (ok_assign · (.int _ _)) ?_
  refine hr_region_end ?_
  try dsimp only [w0, w1, w2, w3]
  refine q_block rfl ?_
  refine q_loop rfl ?_
  try dsimp only [w0, w1, w2, w3]
  exact L0_snd  h
end
end rollcallref03_in
end Go.Proofs.Ytpjabhpfaahgoaa.X
