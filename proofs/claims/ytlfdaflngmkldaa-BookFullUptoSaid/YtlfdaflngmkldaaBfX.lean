/- Functions of the program, each as a Lean function over the layer HL: a call answers what the Lean function answers, where it answers. -/
import Derived.Test.YtlfdaflngmkldaaProg
import Derived.Test.YtlfdaflngmkldaaBfDig
namespace Go.Proofs.Ytlfdaflngmkldaa.X
open Go.Proofs.Ytlfdaflngmkldaa.HL
set_option linter.unusedVariables false
set_option linter.unusedSimpArgs false
set_option maxRecDepth 20000
set_option maxHeartbeats 4000000
theorem st87 : StructAt Try.prog 87 [(0, 1), (1, 1)] [(.int .i64 0), (Sl.hv Sl.nil)] := structAt_mk (zv := (.agg #[(.int .i64 0), (.slice none 0 0)])) (by kernel_rfl) (by kernel_rfl) (fun β => VRels.cons (.int _ _) (VRels.cons (.slNil none) (VRels.nil β)))
theorem tu85 : Try.prog.underlying 85 = some (.slice 90) := by kernel_rfl
theorem tu3 : Try.prog.underlying 3 = some (.int .i64) := by kernel_rfl
theorem tu111 : Try.prog.underlying 111 = some (.int .u64) := by kernel_rfl
theorem sz90 : ∃ q, Try.prog.info? 90 = some q ∧ q.size = 2 := size_mk' (by kernel_rfl)
theorem ia90 : IsAgg Try.prog 90 2 := isAgg_mk2 (by kernel_rfl) (by kernel_rfl)
theorem tu9 : Try.prog.underlying 9 = some .string := by kernel_rfl
theorem fi90_0 : fieldInfo Try.prog 90 0 = some (0, 9, 1) := by kernel_rfl
theorem sc9 : Scalar Try.prog 9 := ⟨.string, by kernel_rfl, trivial⟩
theorem tu44 : Try.prog.underlying 44 = some (.pointer 87) := by kernel_rfl
theorem fi87_1 : fieldInfo Try.prog 87 1 = some (1, 85, 1) := by kernel_rfl
theorem sc85 : Scalar Try.prog 85 := ⟨(.slice 90), by kernel_rfl, trivial⟩
theorem si90 : SizeIs Try.prog 90 2 24 := sizeIs_mk (by kernel_rfl)
theorem el85 : ElemAt Try.prog 85 90 2 [(.str []), (.int .i64 0)] := elemAt_mk (zv := (.agg #[(.string ⟨#[]⟩), (.int .i64 0)])) (by_ := 24) (by kernel_rfl) (by kernel_rfl) (by decide) (fun β => VRels.cons (.str []) (VRels.cons (.int _ _) (VRels.nil β))) rfl (by decide) rfl
theorem ext60 : ExtAt Try.prog 60 (Extern.SlicesOverlaps.overlaps #[85, 85] #[4]) := ⟨Try.f60, Try.func60, by kernel_rfl, by kernel_rfl, by kernel_rfl, by kernel_rfl⟩
theorem st90 : StructAt Try.prog 90 [(0, 1), (1, 1)] [(.str []), (.int .i64 0)] := structAt_mk (zv := (.agg #[(.string ⟨#[]⟩), (.int .i64 0)])) (by kernel_rfl) (by kernel_rfl) (fun β => VRels.cons (.str []) (VRels.cons (.int _ _) (VRels.nil β)))
theorem fi87_0 : fieldInfo Try.prog 87 0 = some (0, 3, 1) := by kernel_rfl
theorem sc3 : Scalar Try.prog 3 := ⟨(.int .i64), by kernel_rfl, trivial⟩
theorem sz85 : ∃ q, Try.prog.info? 85 = some q ∧ q.size = 1 := size_mk' (by kernel_rfl)
theorem st68 : StructAt Try.prog 68 [(0, 1), (1, 1)] [(.int .i64 0), (Sl.hv Sl.nil)] := structAt_mk (zv := (.agg #[(.int .i64 0), (.slice none 0 0)])) (by kernel_rfl) (by kernel_rfl) (fun β => VRels.cons (.int _ _) (VRels.cons (.slNil none) (VRels.nil β)))
theorem tu66 : Try.prog.underlying 66 = some (.slice 70) := by kernel_rfl
theorem sz70 : ∃ q, Try.prog.info? 70 = some q ∧ q.size = 2 := size_mk' (by kernel_rfl)
theorem ia70 : IsAgg Try.prog 70 2 := isAgg_mk2 (by kernel_rfl) (by kernel_rfl)
theorem fi70_0 : fieldInfo Try.prog 70 0 = some (0, 9, 1) := by kernel_rfl
theorem tu23 : Try.prog.underlying 23 = some (.pointer 68) := by kernel_rfl
theorem fi68_1 : fieldInfo Try.prog 68 1 = some (1, 66, 1) := by kernel_rfl
theorem sc66 : Scalar Try.prog 66 := ⟨(.slice 70), by kernel_rfl, trivial⟩
theorem si70 : SizeIs Try.prog 70 2 24 := sizeIs_mk (by kernel_rfl)
theorem el66 : ElemAt Try.prog 66 70 2 [(.str []), (.bool false)] := elemAt_mk (zv := (.agg #[(.string ⟨#[]⟩), (.bool false)])) (by_ := 24) (by kernel_rfl) (by kernel_rfl) (by decide) (fun β => VRels.cons (.str []) (VRels.cons (.bool _) (VRels.nil β))) rfl (by decide) rfl
theorem ext50 : ExtAt Try.prog 50 (Extern.SlicesOverlaps.overlaps #[66, 66] #[4]) := ⟨Try.f50, Try.func50, by kernel_rfl, by kernel_rfl, by kernel_rfl, by kernel_rfl⟩
theorem st70 : StructAt Try.prog 70 [(0, 1), (1, 1)] [(.str []), (.bool false)] := structAt_mk (zv := (.agg #[(.string ⟨#[]⟩), (.bool false)])) (by kernel_rfl) (by kernel_rfl) (fun β => VRels.cons (.str []) (VRels.cons (.bool _) (VRels.nil β)))
theorem fi68_0 : fieldInfo Try.prog 68 0 = some (0, 3, 1) := by kernel_rfl
theorem sz66 : ∃ q, Try.prog.info? 66 = some q ∧ q.size = 1 := size_mk' (by kernel_rfl)
theorem tu5 : Try.prog.underlying 5 = some (.int .u8) := by kernel_rfl
theorem tu4 : Try.prog.underlying 4 = some .bool := by kernel_rfl
namespace book_New_int
theorem at_ : FnAt Try.prog 20 Try.f20 := ⟨Try.func20, by kernel_rfl⟩
noncomputable def d0 := (Try.f20.body).getD .skip
noncomputable def r1 := kR (kA d0)
noncomputable def r4 := kR (kA (kA (kB d0)))
noncomputable def r7 := kR (kA (kA (kB (kA (kB d0)))))
noncomputable def r11 := kR (kA (kB (kB d0)))
noncomputable def c10 : Code := .seq (.region 3 r11 false) .ret
noncomputable def c5 : Code := .cond (.tmp 9) (.seq (.region 2 r7 false) .ret) .skip
noncomputable def c0 : Code := .seq (.region 0 r1 false) (.seq (.seq (.region 1 r4 false) c5) c10)
theorem body : Try.f20.body = some c0 := by kernel_rfl
section
variable {base : Nat} {W0 : World} {β0 : Bt}
def J0  (y0 : Int) (y9 : Bool) (S : HS) : Option (((Option HA) × Int) × HS) :=
  (if y9 = true then
  some ((none, 2), S) else
  (letv (HS.new S (.cells 2 [[(.int .i64 y0), (Sl.hv Sl.nil)]] true)) fun p3 =>
  some (((some (HA.cell0 S.next)), 0), p3)))
theorem J0_snd   {y0 : Int} {y9 : Bool} {S : HS} {p : ((Option HA) × Int) × HS} {g1 g2 g3 g4 g5 g6 g7 g8 g10 g11 g12 : HV} (h : J0  y0 y9 S = some p) : HRun Try.prog base W0 β0 20 none [.code c5, .code c10] ⟨[(.int .i64 y0), g1, g2, g3, g4, g5, g6, g7, g8, (.bool y9), g10, g11, g12], []⟩ S (fun v S1 => v = (.tup [(.ptr p.1.1), (.int .i64 p.1.2)]) ∧ S1 = p.2) := by
  unfold J0 at h
  rcases ifc h with ⟨hc2, h⟩ | ⟨hc2, h⟩
  · refine q_cond_t rfl (.tmp rfl) hc2 ?_
    refine q_seq rfl ?_
    refine q_region rfl rfl ?_
    refine qS 2 rfl (ok_assign · (.const fun _ => .ptrNil)) ?_
    refine qS 3 rfl (ok_assign · (.int _ _)) ?_
    refine hr_region_end ?_
    try dsimp only [w0, w1, w2, w3]
    cases h
    exact q_ret rfl at_.at_ rfl (res2 rfl rfl rfl) ⟨rfl, rfl⟩
  · refine q_cond_f rfl (.tmp rfl) (bfalse hc2) ?_
    refine q_skipc rfl ?_
    refine q_seq rfl ?_
    refine q_region rfl rfl ?_
    refine qS 10 rfl (ok_move · (.tmp rfl)) ?_
    refine qS 11 rfl (ok_build (is := [0]) (xs := [(.tmp 10)]) (r := [(.int .i64 y0), (Sl.hv Sl.nil)]) st87 · rfl rfl (.cons (.tmp rfl) Evs.nil) rfl) ?_
    obtain ⟨p3, hp3, h⟩ := leto h
    refine qS 12 rfl (ok_box_e · (.tmp rfl) (Nat.zero_lt_succ _) rfl hp3) ?_
    refine qS 2 rfl (ok_assign · (.tmp rfl)) ?_
    try dsimp only [w0, w1, w2, w3]
    refine qS 3 rfl (ok_assign · (.int _ _)) ?_
    refine hr_region_end ?_
    try dsimp only [w0, w1, w2, w3]
    cases h
    exact q_ret rfl at_.at_ rfl (res2 rfl rfl rfl) ⟨rfl, rfl⟩
def f (x0 : Int) (S : HS) : Option (((Option HA) × Int) × HS) :=
  (if x0 < 0 then
  J0 x0 true S else
  J0 x0 (decide (x0 > 100000)) S)
theorem snd {x0 : Int} {S : HS}  {p : ((Option HA) × Int) × HS} (h : f x0 S = some p) : HCall Try.prog base W0 β0 20 [(.int .i64 x0)] S (fun v S1 => v = (.tup [(.ptr p.1.1), (.int .i64 p.1.2)]) ∧ S1 = p.2) := by
  unfold f at h
  refine HCall.of_run at_.at_ body ?_
  show HRun Try.prog base W0 β0 20 none [.code c0] ⟨[(.int .i64 x0), τ, τ, τ, τ, τ, τ, τ, τ, τ, τ, τ, τ], []⟩ S _
  refine q_seq rfl ?_
  refine q_region rfl rfl ?_
  refine qS 2 rfl (ok_assign · (.const fun _ => .ptrNil)) ?_
  refine qS 3 rfl (ok_assign · (.int _ _)) ?_
  refine hr_region_end ?_
  try dsimp only [w0, w1, w2, w3]
  refine q_seq rfl ?_
  refine q_seq rfl ?_
  refine q_region rfl rfl ?_
  refine qS 4 rfl (ok_move · (.tmp rfl)) ?_
  refine qS 5 rfl (ok_ibin · (.tmp rfl) (.int _ _) rfl) ?_
  refine qS 6 rfl (ok_move · (.tmp rfl)) ?_
  rcases ifc h with ⟨hc1, h⟩ | ⟨hc1, h⟩
  · refine q_skip (dst := some 7) (t := 6) rfl rfl rfl (decide_eq_true hc1) ?_
    try dsimp only [w0, w1, w2, w3]
    refine q_skip (dst := some 8) (t := 6) rfl rfl rfl (decide_eq_true hc1) ?_
    refine qS 9 rfl (ok_pick_tt · (.tmp rfl) (decide_eq_true hc1) (.bool _)) ?_
    refine hr_region_end ?_
    try dsimp only [w0, w1, w2, w3]
    try dsimp only [w0, w1, w2, w3]
    exact J0_snd  h
  · refine qG 6 7 rfl (decide_eq_false hc1) (ok_move · (.tmp rfl)) ?_
    try dsimp only [w0, w1, w2, w3]
    refine qG 6 8 rfl (decide_eq_false hc1) (ok_ibin · (.tmp rfl) (.int _ _) rfl) ?_
    refine qS 9 rfl (ok_pick_ff · (.tmp rfl) (decide_eq_false hc1) (.tmp rfl)) ?_
    refine hr_region_end ?_
    try dsimp only [w0, w1, w2, w3]
    try dsimp only [w0, w1, w2, w3]
    exact J0_snd  h
end
end book_New_int
namespace slices_BinarySearchFunc_book_entry_int_book_entry_int_string
theorem at_ : FnAt Try.prog 58 Try.f58 := ⟨Try.func58, by kernel_rfl⟩
noncomputable def d0 := (Try.f58.body).getD .skip
noncomputable def r1 := kR (kA d0)
noncomputable def r3 := kR (kA (kB d0))
noncomputable def r5 := kR (kA (kB (kB d0)))
noncomputable def d6 := kB (kB (kB d0))
noncomputable def d9 := kA (kA (kA d6))
noncomputable def r11 := kR (kA (kA d9))
noncomputable def r17 := kR (kA (kA (kB d9)))
noncomputable def r19 := kR (kA (kB (kA (kB d9))))
noncomputable def r21 := kR (kA (kB (kB (kA (kB d9)))))
noncomputable def r22 := kR (kB (kB (kB (kA (kB d9)))))
noncomputable def r24 := kR (kA (kB d6))
noncomputable def c25 : Code := .ret
noncomputable def c23 : Code := .seq (.region 8 r24 false) c25
noncomputable def c9 : Code := .seq (.seq (.region 3 r11 false) (.cond (.tmp 17) .skip (.exit 0))) (.block 1 (.seq (.region 4 r17 false) (.seq (.region 5 r19 false) (.cond (.tmp 31) (.region 6 r21 false) (.region 7 r22 false)))))
noncomputable def c0 : Code := .seq (.region 0 r1 false) (.seq (.region 1 r3 false) (.seq (.region 2 r5 false) (.seq (.block 0 (.loop c9)) c23)))
theorem body : Try.f58.body = some c0 := by kernel_rfl
section
variable {base : Nat} {W0 : World} {β0 : Bt}
def J1 (D : Dp) (H : Hd) (k : Nat) (y35 : Int) (y48 : Bool) (S : HS) : Option ((Int × Bool) × HS) :=
  some ((y35, y48), S)
theorem J1_snd {D : Dp} {H : Hd} {k : Nat} (hD : DSound Try.prog base W0 D) (hH : HSound Try.prog base W0 β0 H)  {y35 : Int} {y48 : Bool} {S : HS} {p : (Int × Bool) × HS} {g0 g1 g2 g3 g4 g5 g6 g7 g8 g9 g10 g11 g12 g13 g14 g15 g16 g17 g18 g19 g20 g21 g22 g23 g24 g25 g26 g27 g28 g29 g30 g31 g32 g33 g34 g36 g37 g38 g39 g40 g41 g42 g43 g44 g45 g46 g47 : HV} (h : J1 D H k y35 y48 S = some p) : HRun Try.prog base W0 β0 58 none [.inRegion r24 [14, 15], .code c25] ⟨[g0, g1, g2, g3, g4, g5, g6, g7, g8, g9, g10, g11, g12, g13, g14, g15, g16, g17, g18, g19, g20, g21, g22, g23, g24, g25, g26, g27, g28, g29, g30, g31, g32, g33, g34, (.int .i64 y35), g36, g37, g38, g39, g40, g41, g42, g43, g44, g45, g46, g47, (.bool y48)], []⟩ S (fun v S1 => v = (.tup [(.int .i64 p.1.1), (.bool p.1.2)]) ∧ S1 = p.2) := by
  unfold J1 at h
  refine qS 6 rfl (ok_assign · (.tmp rfl)) ?_
  refine qS 7 rfl (ok_assign · (.tmp rfl)) ?_
  refine hr_region_end ?_
  try dsimp only [w0, w1, w2, w3]
  cases h
  exact q_ret rfl at_.at_ rfl (res2 rfl rfl rfl) ⟨rfl, rfl⟩
def L0 (D : Dp) (H : Hd) (k : Nat) : Nat → Sl → (List UInt8) → HV → Int → Int → Int → HS → Option ((Int × Bool) × HS)
  | 0, _, _, _, _, _, _, _ => none
  | n + 1, y0, y1, y2, y8, y9, y10, S =>
    (if y9 < y10 then
    (Option.bind (HS.idx S y0 (w64 (Int.fdiv (IntKind.wrap .u64 (w64 (y9 + y10))) (2 ^ (min (Int.toNat 1) (IntKind.bits .u64))))) 2) fun p2 =>
    (Option.bind (HS.ldS S (HA.fld p2 0)) fun p3 =>
    (Option.bind (HS.ldI S .i64 (HA.fld p2 1)) fun p4 =>
    (Option.bind (D H y2 [(.agg [(.str p3), (.int .i64 p4)]), (.str y1)] S) fun p5 =>
    (Option.bind (dI .i64 p5.1) fun p6 =>
    (if p6 < 0 then
    (L0 D H k n) y0 y1 y2 y8 (w64 ((w64 (Int.fdiv (IntKind.wrap .u64 (w64 (y9 + y10))) (2 ^ (min (Int.toNat 1) (IntKind.bits .u64))))) + 1)) y10 p5.2 else
    (L0 D H k n) y0 y1 y2 y8 y9 (w64 (Int.fdiv (IntKind.wrap .u64 (w64 (y9 + y10))) (2 ^ (min (Int.toNat 1) (IntKind.bits .u64))))) p5.2)))))) else
    (if y9 < y8 then
    (Option.bind (HS.idx S y0 y9 2) fun p9 =>
    (Option.bind (HS.ldS S (HA.fld p9 0)) fun p10 =>
    (Option.bind (HS.ldI S .i64 (HA.fld p9 1)) fun p11 =>
    (Option.bind (D H y2 [(.agg [(.str p10), (.int .i64 p11)]), (.str y1)] S) fun p12 =>
    (Option.bind (dI .i64 p12.1) fun p13 =>
    J1 D H k y9 (decide (p13 = 0)) p12.2))))) else
    J1 D H k y9 false S))
theorem L0_snd {D : Dp} {H : Hd} {k : Nat} (hD : DSound Try.prog base W0 D) (hH : HSound Try.prog base W0 β0 H)  : ∀ {n : Nat} ⦃y0 : Sl⦄ ⦃y1 : (List UInt8)⦄ ⦃y2 : HV⦄ ⦃y8 : Int⦄ ⦃y9 : Int⦄ ⦃y10 : Int⦄ ⦃S : HS⦄ ⦃p : (Int × Bool) × HS⦄ ⦃g3 g4 g5 g6 g7 g11 g12 g13 g14 g15 g16 g17 g18 g19 g20 g21 g22 g23 g24 g25 g26 g27 g28 g29 g30 g31 g32 g33 g34 g35 g36 g37 g38 g39 g40 g41 g42 g43 g44 g45 g46 g47 g48 : HV⦄, L0 D H k n y0 y1 y2 y8 y9 y10 S = some p → HRun Try.prog base W0 β0 58 none [.inLoop c9, .inBlock 0, .code c23] ⟨[(Sl.hv y0), (.str y1), y2, g3, g4, g5, g6, g7, (.int .i64 y8), (.int .i64 y9), (.int .i64 y10), g11, g12, g13, g14, g15, g16, g17, g18, g19, g20, g21, g22, g23, g24, g25, g26, g27, g28, g29, g30, g31, g32, g33, g34, g35, g36, g37, g38, g39, g40, g41, g42, g43, g44, g45, g46, g47, g48], []⟩ S (fun v S1 => v = (.tup [(.int .i64 p.1.1), (.bool p.1.2)]) ∧ S1 = p.2) := by
  intro n
  induction n with
  | zero => intro _ _ _ _ _ _ _ _ _ _ _ _ _ _ _ _ _ _ _ _ _ _ _ _ _ _ _ _ _ _ _ _ _ _ _ _ _ _ _ _ _ _ _ _ _ _ _ _ _ _ _ h; cases h
  | succ n ih =>
    intro y0 y1 y2 y8 y9 y10 S p g3 g4 g5 g6 g7 g11 g12 g13 g14 g15 g16 g17 g18 g19 g20 g21 g22 g23 g24 g25 g26 g27 g28 g29 g30 g31 g32 g33 g34 g35 g36 g37 g38 g39 g40 g41 g42 g43 g44 g45 g46 g47 g48 h
    simp only [L0] at h
    refine hr_inLoop ?_
    refine q_seq rfl ?_
    refine q_seq rfl ?_
    refine q_region rfl rfl ?_
    refine qS 15 rfl (ok_move · (.tmp rfl)) ?_
    refine qS 16 rfl (ok_move · (.tmp rfl)) ?_
    refine qS 17 rfl (ok_ibin · (.tmp rfl) (.tmp rfl) rfl) ?_
    refine hr_region_end ?_
    try dsimp only [w0, w1, w2, w3]
    rcases ifc h with ⟨hc1, h⟩ | ⟨hc1, h⟩
    · refine q_cond_t rfl (.tmp rfl) (decide_eq_true hc1) ?_
      refine q_skipc rfl ?_
      refine q_block rfl ?_
      refine q_seq rfl ?_
      refine q_region rfl rfl ?_
      refine qS 18 rfl (ok_move · (.tmp rfl)) ?_
      refine qS 19 rfl (ok_move · (.tmp rfl)) ?_
      refine qS 20 rfl (ok_ibin · (.tmp rfl) (.tmp rfl) rfl) ?_
      refine qS 21 rfl (ok_conv_int · tu3 tu111 (.tmp rfl)) ?_
      try dsimp only [w0, w1, w2, w3]
      refine qS 22 rfl (ok_shr · (.tmp rfl) (.int _ _) (by decide)) ?_
      refine qS 23 rfl (ok_conv_int · tu111 tu3 (.tmp rfl)) ?_
      refine qS 11 rfl (ok_assign · (.tmp rfl)) ?_
      refine hr_region_end ?_
      try dsimp only [w0, w1, w2, w3]
      refine q_seq rfl ?_
      refine q_region rfl rfl ?_
      refine qS 24 rfl (ok_move · (.tmp rfl)) ?_
      refine qS 25 rfl (ok_move · (.tmp rfl)) ?_
      refine qS 26 rfl (ok_move · (.tmp rfl)) ?_
      obtain ⟨p2, hp2, h⟩ := bindo h
      refine qS 27 rfl (ok_indexAddr (s := y0) · tu85 sz90 (.tmp rfl) (.tmp rfl) hp2) ?_
      try dsimp only [w0, w1, w2, w3]
      obtain ⟨p3, hp3, h⟩ := bindo h
      obtain ⟨p4, hp4, h⟩ := bindo h
      refine qS 28 rfl (ok_load_a (vs := [(.str p3), (.int .i64 p4)]) · ia90 (.tmp rfl) rfl ⟨ldS_out hp3, ldI_out hp4, trivial⟩ (by simp)) ?_
      refine qS 29 rfl (ok_move · (.tmp rfl)) ?_
      obtain ⟨p5, hp5, h⟩ := bindo h
      obtain ⟨p6, hp6, h⟩ := bindo h
      refine q_call (dst := some 30) rfl (.tmp rfl) (.cons (.tmp rfl) (.cons (.tmp rfl) Evs.nil)) (hD _ _ hH _ _ _ _ _ hp5) ?_
      rintro _ _ ⟨rfl, rfl⟩
      rw [dI_out hp6]
      refine qS 31 rfl (ok_ibin · (.tmp rfl) (.int _ _) rfl) ?_
      refine hr_region_end ?_
      try dsimp only [w0, w1, w2, w3]
      rcases ifc h with ⟨hc7, h⟩ | ⟨hc7, h⟩
      · refine q_cond_t rfl (.tmp rfl) (decide_eq_true hc7) ?_
        refine q_region rfl rfl ?_
        refine qS 32 rfl (ok_move · (.tmp rfl)) ?_
        refine qS 33 rfl (ok_ibin · (.tmp rfl) (.int _ _) rfl) ?_
        refine qS 9 rfl (ok_assign · (.tmp rfl)) ?_
        refine hr_region_end ?_
        try dsimp only [w0, w1, w2, w3]
        refine hr_inBlock ?_
        try dsimp only [w0, w1, w2, w3]
        exact ih h
      · refine q_cond_f rfl (.tmp rfl) (decide_eq_false hc7) ?_
        refine q_region rfl rfl ?_
        refine qS 34 rfl (ok_move · (.tmp rfl)) ?_
        refine qS 10 rfl (ok_assign · (.tmp rfl)) ?_
        refine hr_region_end ?_
        try dsimp only [w0, w1, w2, w3]
        refine hr_inBlock ?_
        try dsimp only [w0, w1, w2, w3]
        exact ih h
    · refine q_cond_f rfl (.tmp rfl) (decide_eq_false hc1) ?_
      refine q_exit rfl rfl ?_
      refine q_seq rfl ?_
      refine q_region rfl rfl ?_
      refine qS 35 rfl (ok_move · (.tmp rfl)) ?_
      refine qS 36 rfl (ok_move · (.tmp rfl)) ?_
      refine qS 37 rfl (ok_move · (.tmp rfl)) ?_
      refine qS 38 rfl (ok_ibin · (.tmp rfl) (.tmp rfl) rfl) ?_
      try dsimp only [w0, w1, w2, w3]
      refine qS 39 rfl (ok_move · (.tmp rfl)) ?_
      rcases ifc h with ⟨hc8, h⟩ | ⟨hc8, h⟩
      · refine qG 39 40 rfl (decide_eq_true hc8) (ok_move · (.tmp rfl)) ?_
        refine qG 39 41 rfl (decide_eq_true hc8) (ok_move · (.tmp rfl)) ?_
        refine qG 39 42 rfl (decide_eq_true hc8) (ok_move · (.tmp rfl)) ?_
        try dsimp only [w0, w1, w2, w3]
        obtain ⟨p9, hp9, h⟩ := bindo h
        refine qG 39 43 rfl (decide_eq_true hc8) (ok_indexAddr (s := y0) · tu85 sz90 (.tmp rfl) (.tmp rfl) hp9) ?_
        obtain ⟨p10, hp10, h⟩ := bindo h
        obtain ⟨p11, hp11, h⟩ := bindo h
        refine qG 39 44 rfl (decide_eq_true hc8) (ok_load_a (vs := [(.str p10), (.int .i64 p11)]) · ia90 (.tmp rfl) rfl ⟨ldS_out hp10, ldI_out hp11, trivial⟩ (by simp)) ?_
        refine qG 39 45 rfl (decide_eq_true hc8) (ok_move · (.tmp rfl)) ?_
        obtain ⟨p12, hp12, h⟩ := bindo h
        obtain ⟨p13, hp13, h⟩ := bindo h
        refine q_call_g (t := 39) (dst := some 46) rfl rfl rfl (decide_eq_true hc8) (.tmp rfl) (.cons (.tmp rfl) (.cons (.tmp rfl) Evs.nil)) (hD _ _ hH _ _ _ _ _ hp12) ?_
        rintro _ _ ⟨rfl, rfl⟩
        rw [dI_out hp13]
        try dsimp only [w0, w1, w2, w3]
        refine qG 39 47 rfl (decide_eq_true hc8) (ok_ibin · (.tmp rfl) (.int _ _) rfl) ?_
        refine qS 48 rfl (ok_pick_tt · (.tmp rfl) (decide_eq_true hc8) (.tmp rfl)) ?_
        try dsimp only [w0, w1, w2, w3]
        exact J1_snd hD hH h
      · refine q_skip (dst := some 40) (t := 39) rfl rfl rfl (decide_eq_false hc8) ?_
        refine q_skip (dst := some 41) (t := 39) rfl rfl rfl (decide_eq_false hc8) ?_
        refine q_skip (dst := some 42) (t := 39) rfl rfl rfl (decide_eq_false hc8) ?_
        try dsimp only [w0, w1, w2, w3]
        refine q_skip (dst := some 43) (t := 39) rfl rfl rfl (decide_eq_false hc8) ?_
        refine q_skip (dst := some 44) (t := 39) rfl rfl rfl (decide_eq_false hc8) ?_
        refine q_skip (dst := some 45) (t := 39) rfl rfl rfl (decide_eq_false hc8) ?_
        refine q_skip (dst := some 46) (t := 39) rfl rfl rfl (decide_eq_false hc8) ?_
        try dsimp only [w0, w1, w2, w3]
        refine q_skip (dst := some 47) (t := 39) rfl rfl rfl (decide_eq_false hc8) ?_
        refine qS 48 rfl (ok_pick_ff · (.tmp rfl) (decide_eq_false hc8) (.bool _)) ?_
        try dsimp only [w0, w1, w2, w3]
        exact J1_snd hD hH h
def f (D : Dp) (H : Hd) (k : Nat) (x0 : Sl) (x1 : (List UInt8)) (x2 : HV) (S : HS) : Option ((Int × Bool) × HS) :=
  L0 D H k k x0 x1 x2 (Sl.len x0 : Int) 0 (Sl.len x0 : Int) S
theorem snd {D : Dp} {H : Hd} {k : Nat} {x0 : Sl} {x1 : (List UInt8)} {x2 : HV} {S : HS} (hD : DSound Try.prog base W0 D) (hH : HSound Try.prog base W0 β0 H)  {p : (Int × Bool) × HS} (h : f D H k x0 x1 x2 S = some p) : HCall Try.prog base W0 β0 58 [(Sl.hv x0), (.str x1), x2] S (fun v S1 => v = (.tup [(.int .i64 p.1.1), (.bool p.1.2)]) ∧ S1 = p.2) := by
  unfold f at h
  refine HCall.of_run at_.at_ body ?_
  show HRun Try.prog base W0 β0 58 none [.code c0] ⟨[(Sl.hv x0), (.str x1), x2, τ, τ, τ, τ, τ, τ, τ, τ, τ, τ, τ, τ, τ, τ, τ, τ, τ, τ, τ, τ, τ, τ, τ, τ, τ, τ, τ, τ, τ, τ, τ, τ, τ, τ, τ, τ, τ, τ, τ, τ, τ, τ, τ, τ, τ, τ], []⟩ S _
  refine q_seq rfl ?_
  refine q_region rfl rfl ?_
  refine qS 6 rfl (ok_assign · (.int _ _)) ?_
  refine qS 7 rfl (ok_assign · (.bool _)) ?_
  refine hr_region_end ?_
  try dsimp only [w0, w1, w2, w3]
  refine q_seq rfl ?_
  refine q_region rfl rfl ?_
  refine qS 12 rfl (ok_move · (.tmp rfl)) ?_
  refine qS 13 rfl (ok_len_sl (q := Sl.a x0) (n := Sl.len x0) (z := Sl.cap x0) · rfl tu85 (.tmp rfl)) ?_
  refine qS 8 rfl (ok_assign · (.tmp rfl)) ?_
  refine hr_region_end ?_
  try dsimp only [w0, w1, w2, w3]
  refine q_seq rfl ?_
  refine q_region rfl rfl ?_
  refine qS 14 rfl (ok_move · (.tmp rfl)) ?_
  refine qS 9 rfl (ok_assign · (.int _ _)) ?_
  refine qS 10 rfl (ok_assign · (.tmp rfl)) ?_
  refine hr_region_end ?_
  try dsimp only [w0, w1, w2, w3]
  refine q_seq rfl ?_
  refine q_block rfl ?_
  refine q_loop rfl ?_
  try dsimp only [w0, w1, w2, w3]
  exact L0_snd hD hH h
end
end slices_BinarySearchFunc_book_entry_int_book_entry_int_string
namespace fold_Byte
theorem at_ : FnAt Try.prog 65 Try.f65 := ⟨Try.func65, by kernel_rfl⟩
noncomputable def d0 := (Try.f65.body).getD .skip
noncomputable def r1 := kR (kA d0)
noncomputable def d4 := kA (kA (kB d0))
noncomputable def r5 := kR (kA d4)
noncomputable def r8 := kR (kA (kA (kB d4)))
noncomputable def r11 := kR (kA (kB (kB d4)))
noncomputable def r14 := kR (kA (kA (kB (kB (kB d4)))))
noncomputable def r17 := kR (kA (kB (kB (kB (kB d4)))))
noncomputable def r20 := kR (kA (kA (kB (kB (kB (kB (kB d4)))))))
noncomputable def r24 := kR (kA (kB (kB d0)))
noncomputable def c23 : Code := .seq (.region 7 r24 false) .ret
noncomputable def c12 : Code := .cond (.tmp 12) (.seq (.region 4 r14 false) .ret) (.seq (.region 5 r17 false) (.cond (.tmp 25) (.seq (.region 6 r20 false) .ret) .skip))
noncomputable def c6 : Code := .cond (.tmp 3) (.seq (.region 2 r8 false) .ret) (.seq (.region 3 r11 false) c12)
noncomputable def c0 : Code := .seq (.region 0 r1 false) (.seq (.block 0 (.seq (.region 1 r5 false) c6)) c23)
theorem body : Try.f65.body = some c0 := by kernel_rfl
section
variable {base : Nat} {W0 : World} {β0 : Bt}
def J2  (y0 : Int) (y22 : Bool) : Option (Int) :=
  (if y22 = true then
  some (w8 (y0 + 32)) else
  (if y0 = 126 then
  some 94 else
  some y0))
theorem J2_snd   {y0 : Int} {y22 : Bool} {S : HS} {p : Int} {g1 g2 g3 g4 g5 g6 g7 g8 g9 g10 g11 g12 g13 g14 g15 g16 g17 g18 g19 g20 g21 g23 g24 g25 g26 g27 g28 : HV} (h : J2  y0 y22 = some p) : HRun Try.prog base W0 β0 65 none [.inRegion r11 [10], .code c12, .inBlock 0, .code c23] ⟨[(.int .u8 y0), g1, g2, g3, g4, g5, g6, g7, g8, g9, g10, g11, g12, g13, g14, g15, g16, g17, g18, g19, g20, g21, (.bool y22), g23, g24, g25, g26, g27, g28], []⟩ S (fun v S1 => v = (.int .u8 p) ∧ S1 = S) := by
  unfold J2 at h
  refine qS 12 rfl (ok_assign · (.tmp rfl)) ?_
  refine hr_region_end ?_
  try dsimp only [w0, w1, w2, w3]
  rcases ifc h with ⟨hc5, h⟩ | ⟨hc5, h⟩
  · refine q_cond_t rfl (.tmp rfl) hc5 ?_
    refine q_seq rfl ?_
    refine q_region rfl rfl ?_
    refine qS 23 rfl (ok_move · (.tmp rfl)) ?_
    refine qS 24 rfl (ok_ibin · (.tmp rfl) (.int _ _) rfl) ?_
    refine qS 2 rfl (ok_assign · (.tmp rfl)) ?_
    refine hr_region_end ?_
    try dsimp only [w0, w1, w2, w3]
    cases h
    exact q_ret rfl at_.at_ rfl (res1 rfl rfl) ⟨rfl, rfl⟩
  · refine q_cond_f rfl (.tmp rfl) (bfalse hc5) ?_
    refine q_seq rfl ?_
    refine q_region rfl rfl ?_
    refine qS 26 rfl (ok_move · (.tmp rfl)) ?_
    refine qS 27 rfl (ok_ibin · (.tmp rfl) (.int _ _) rfl) ?_
    refine qS 25 rfl (ok_assign · (.tmp rfl)) ?_
    refine hr_region_end ?_
    try dsimp only [w0, w1, w2, w3]
    rcases ifc h with ⟨hc6, h⟩ | ⟨hc6, h⟩
    · refine q_cond_t rfl (.tmp rfl) (decide_eq_true hc6) ?_
      refine q_seq rfl ?_
      refine q_region rfl rfl ?_
      refine qS 2 rfl (ok_assign · (.int _ _)) ?_
      refine hr_region_end ?_
      try dsimp only [w0, w1, w2, w3]
      cases h
      exact q_ret rfl at_.at_ rfl (res1 rfl rfl) ⟨rfl, rfl⟩
    · refine q_cond_f rfl (.tmp rfl) (decide_eq_false hc6) ?_
      refine q_skipc rfl ?_
      refine hr_inBlock ?_
      refine q_seq rfl ?_
      refine q_region rfl rfl ?_
      refine qS 28 rfl (ok_move · (.tmp rfl)) ?_
      refine qS 2 rfl (ok_assign · (.tmp rfl)) ?_
      refine hr_region_end ?_
      try dsimp only [w0, w1, w2, w3]
      cases h
      exact q_ret rfl at_.at_ rfl (res1 rfl rfl) ⟨rfl, rfl⟩
def J1  (y0 : Int) (y18 : Bool) : Option (Int) :=
  (if y18 = true then
  J2 y0 true else
  J2 y0 (decide (y0 = 92)))
theorem J1_snd   {y0 : Int} {y18 : Bool} {S : HS} {p : Int} {g1 g2 g3 g4 g5 g6 g7 g8 g9 g10 g11 g12 g13 g14 g15 g16 g17 g19 g20 g21 g22 g23 g24 g25 g26 g27 g28 : HV} (h : J1  y0 y18 = some p) : HRun Try.prog base W0 β0 65 none [.inRegion r11 [6, 7, 8, 9, 10], .code c12, .inBlock 0, .code c23] ⟨[(.int .u8 y0), g1, g2, g3, g4, g5, g6, g7, g8, g9, g10, g11, g12, g13, g14, g15, g16, g17, (.bool y18), g19, g20, g21, g22, g23, g24, g25, g26, g27, g28], []⟩ S (fun v S1 => v = (.int .u8 p) ∧ S1 = S) := by
  unfold J1 at h
  refine qS 19 rfl (ok_move · (.tmp rfl)) ?_
  rcases ifc h with ⟨hc4, h⟩ | ⟨hc4, h⟩
  · refine q_skip (dst := some 20) (t := 19) rfl rfl rfl hc4 ?_
    try dsimp only [w0, w1, w2, w3]
    refine q_skip (dst := some 21) (t := 19) rfl rfl rfl hc4 ?_
    refine qS 22 rfl (ok_pick_tt · (.tmp rfl) hc4 (.bool _)) ?_
    try dsimp only [w0, w1, w2, w3]
    exact J2_snd  h
  · refine qG 19 20 rfl (bfalse hc4) (ok_move · (.tmp rfl)) ?_
    try dsimp only [w0, w1, w2, w3]
    refine qG 19 21 rfl (bfalse hc4) (ok_ibin · (.tmp rfl) (.int _ _) rfl) ?_
    refine qS 22 rfl (ok_pick_ff · (.tmp rfl) (bfalse hc4) (.tmp rfl)) ?_
    try dsimp only [w0, w1, w2, w3]
    exact J2_snd  h
def J0  (y0 : Int) (y9 : Bool) : Option (Int) :=
  (if y9 = true then
  some (w8 (y0 + 32)) else
  (if y0 = 91 then
  J1 y0 true else
  J1 y0 (decide (y0 = 93))))
theorem J0_snd   {y0 : Int} {y9 : Bool} {S : HS} {p : Int} {g1 g2 g3 g4 g5 g6 g7 g8 g10 g11 g12 g13 g14 g15 g16 g17 g18 g19 g20 g21 g22 g23 g24 g25 g26 g27 g28 : HV} (h : J0  y0 y9 = some p) : HRun Try.prog base W0 β0 65 none [.inRegion r5 [6], .code c6, .inBlock 0, .code c23] ⟨[(.int .u8 y0), g1, g2, g3, g4, g5, g6, g7, g8, (.bool y9), g10, g11, g12, g13, g14, g15, g16, g17, g18, g19, g20, g21, g22, g23, g24, g25, g26, g27, g28], []⟩ S (fun v S1 => v = (.int .u8 p) ∧ S1 = S) := by
  unfold J0 at h
  refine qS 3 rfl (ok_assign · (.tmp rfl)) ?_
  refine hr_region_end ?_
  try dsimp only [w0, w1, w2, w3]
  rcases ifc h with ⟨hc2, h⟩ | ⟨hc2, h⟩
  · refine q_cond_t rfl (.tmp rfl) hc2 ?_
    refine q_seq rfl ?_
    refine q_region rfl rfl ?_
    refine qS 10 rfl (ok_move · (.tmp rfl)) ?_
    refine qS 11 rfl (ok_ibin · (.tmp rfl) (.int _ _) rfl) ?_
    refine qS 2 rfl (ok_assign · (.tmp rfl)) ?_
    refine hr_region_end ?_
    try dsimp only [w0, w1, w2, w3]
    cases h
    exact q_ret rfl at_.at_ rfl (res1 rfl rfl) ⟨rfl, rfl⟩
  · refine q_cond_f rfl (.tmp rfl) (bfalse hc2) ?_
    refine q_seq rfl ?_
    refine q_region rfl rfl ?_
    refine qS 13 rfl (ok_move · (.tmp rfl)) ?_
    refine qS 14 rfl (ok_ibin · (.tmp rfl) (.int _ _) rfl) ?_
    refine qS 15 rfl (ok_move · (.tmp rfl)) ?_
    rcases ifc h with ⟨hc3, h⟩ | ⟨hc3, h⟩
    · refine q_skip (dst := some 16) (t := 15) rfl rfl rfl (decide_eq_true hc3) ?_
      try dsimp only [w0, w1, w2, w3]
      refine q_skip (dst := some 17) (t := 15) rfl rfl rfl (decide_eq_true hc3) ?_
      refine qS 18 rfl (ok_pick_tt · (.tmp rfl) (decide_eq_true hc3) (.bool _)) ?_
      try dsimp only [w0, w1, w2, w3]
      exact J1_snd  h
    · refine qG 15 16 rfl (decide_eq_false hc3) (ok_move · (.tmp rfl)) ?_
      try dsimp only [w0, w1, w2, w3]
      refine qG 15 17 rfl (decide_eq_false hc3) (ok_ibin · (.tmp rfl) (.int _ _) rfl) ?_
      refine qS 18 rfl (ok_pick_ff · (.tmp rfl) (decide_eq_false hc3) (.tmp rfl)) ?_
      try dsimp only [w0, w1, w2, w3]
      exact J1_snd  h
def f (x0 : Int) : Option (Int) :=
  (if x0 ≥ 65 then
  J0 x0 (decide (x0 ≤ 90)) else
  J0 x0 false)
theorem snd {x0 : Int} {S : HS}  {p : Int} (h : f x0 = some p) : HCall Try.prog base W0 β0 65 [(.int .u8 x0)] S (fun v S1 => v = (.int .u8 p) ∧ S1 = S) := by
  unfold f at h
  refine HCall.of_run at_.at_ body ?_
  show HRun Try.prog base W0 β0 65 none [.code c0] ⟨[(.int .u8 x0), τ, τ, τ, τ, τ, τ, τ, τ, τ, τ, τ, τ, τ, τ, τ, τ, τ, τ, τ, τ, τ, τ, τ, τ, τ, τ, τ, τ], []⟩ S _
  refine q_seq rfl ?_
  refine q_region rfl rfl ?_
  refine qS 2 rfl (ok_assign · (.int _ _)) ?_
  refine hr_region_end ?_
  try dsimp only [w0, w1, w2, w3]
  refine q_seq rfl ?_
  refine q_block rfl ?_
  refine q_seq rfl ?_
  refine q_region rfl rfl ?_
  refine qS 4 rfl (ok_move · (.tmp rfl)) ?_
  refine qS 5 rfl (ok_ibin · (.tmp rfl) (.int _ _) rfl) ?_
  refine qS 6 rfl (ok_move · (.tmp rfl)) ?_
  rcases ifc h with ⟨hc1, h⟩ | ⟨hc1, h⟩
  · refine qG 6 7 rfl (decide_eq_true hc1) (ok_move · (.tmp rfl)) ?_
    try dsimp only [w0, w1, w2, w3]
    refine qG 6 8 rfl (decide_eq_true hc1) (ok_ibin · (.tmp rfl) (.int _ _) rfl) ?_
    refine qS 9 rfl (ok_pick_tt · (.tmp rfl) (decide_eq_true hc1) (.tmp rfl)) ?_
    try dsimp only [w0, w1, w2, w3]
    exact J0_snd  h
  · refine q_skip (dst := some 7) (t := 6) rfl rfl rfl (decide_eq_false hc1) ?_
    try dsimp only [w0, w1, w2, w3]
    refine q_skip (dst := some 8) (t := 6) rfl rfl rfl (decide_eq_false hc1) ?_
    refine qS 9 rfl (ok_pick_ff · (.tmp rfl) (decide_eq_false hc1) (.bool _)) ?_
    try dsimp only [w0, w1, w2, w3]
    exact J0_snd  h
end
end fold_Byte
namespace fold_Compare
theorem at_ : FnAt Try.prog 49 Try.f49 := ⟨Try.func49, by kernel_rfl⟩
noncomputable def d0 := (Try.f49.body).getD .skip
noncomputable def r1 := kR (kA d0)
noncomputable def r4 := kR (kA (kA (kB d0)))
noncomputable def d5 := kB (kA (kB d0))
noncomputable def r8 := kR (kA (kA (kA d5)))
noncomputable def d9 := kB (kA (kA d5))
noncomputable def d15 := kA (kA (kB d9))
noncomputable def r16 := kR (kA d15)
noncomputable def r18 := kR (kA (kB d15))
noncomputable def r21 := kR (kA (kA (kB (kB d15))))
noncomputable def r24 := kR (kA (kA (kB (kA (kB (kB d15))))))
noncomputable def r28 := kR (kA (kB (kB (kB d15))))
noncomputable def r31 := kR (kA (kA (kB (kB (kB (kB d15))))))
noncomputable def r34 := kR (kB (kB d9))
noncomputable def d36 := kA (kB (kB d0))
noncomputable def r38 := kR (kA (kA d36))
noncomputable def r41 := kR (kA (kA (kB (kA d36))))
noncomputable def r44 := kR (kA (kB (kB (kA d36))))
noncomputable def r47 := kR (kA (kA (kB (kB (kB (kA d36))))))
noncomputable def r51 := kR (kA (kB (kB (kB d0))))
noncomputable def c35 : Code := .seq (.block 2 (.seq (.region 10 r38 false) (.cond (.tmp 31) (.seq (.region 11 r41 false) .ret) (.seq (.region 12 r44 false) (.cond (.tmp 37) (.seq (.region 13 r47 false) .ret) .skip))))) (.seq (.region 14 r51 false) .ret)
noncomputable def c7 : Code := .seq (.region 2 r8 false) (.seq (.cond (.tmp 14) .skip (.exit 0)) (.seq (.block 1 (.seq (.region 3 r16 false) (.seq (.region 4 r18 true) (.seq (.seq (.region 5 r21 false) (.cond (.tmp 26) (.seq (.region 6 r24 false) .ret) .skip)) (.seq (.region 7 r28 false) (.cond (.tmp 29) (.seq (.region 8 r31 false) .ret) .skip)))))) (.region 9 r34 false)))
noncomputable def c0 : Code := .seq (.region 0 r1 false) (.seq (.seq (.region 1 r4 false) (.block 0 (.loop c7))) c35)
theorem body : Try.f49.body = some c0 := by kernel_rfl
section
variable {base : Nat} {W0 : World} {β0 : Bt}
def L0 (k : Nat) : Nat → (List UInt8) → (List UInt8) → Int → Int → Option (Int)
  | 0, _, _, _, _ => none
  | n + 1, y0, y1, y12, y13 =>
    (if y13 < y12 then
    (Option.bind (sat y0 y13) fun p2 =>
    (Option.bind (fold_Byte.f (UInt8.toNat p2 : Int)) fun p3 =>
    (Option.bind (sat y1 y13) fun p4 =>
    (Option.bind (fold_Byte.f (UInt8.toNat p4 : Int)) fun p5 =>
    (if p3 < p5 then
    some (-1) else
    (if p3 > p5 then
    some 1 else
    (L0 k n) y0 y1 y12 (w64 (y13 + 1)))))))) else
    (if (List.length y0 : Int) < (List.length y1 : Int) then
    some (-1) else
    (if (List.length y0 : Int) > (List.length y1 : Int) then
    some 1 else
    some 0)))
theorem L0_snd {k : Nat}  : ∀ {n : Nat} ⦃y0 : (List UInt8)⦄ ⦃y1 : (List UInt8)⦄ ⦃y12 : Int⦄ ⦃y13 : Int⦄ ⦃S : HS⦄ ⦃p : Int⦄ ⦃g2 g3 g4 g5 g6 g7 g8 g9 g10 g11 g14 g15 g16 g17 g18 g19 g20 g21 g22 g23 g24 g25 g26 g27 g28 g29 g30 g31 g32 g33 g34 g35 g36 g37 g38 g39 g40 g41 g42 : HV⦄, L0 k n y0 y1 y12 y13 = some p → HRun Try.prog base W0 β0 49 none [.inLoop c7, .inBlock 0, .code c35] ⟨[(.str y0), (.str y1), g2, g3, g4, g5, g6, g7, g8, g9, g10, g11, (.int .i64 y12), (.int .i64 y13), g14, g15, g16, g17, g18, g19, g20, g21, g22, g23, g24, g25, g26, g27, g28, g29, g30, g31, g32, g33, g34, g35, g36, g37, g38, g39, g40, g41, g42], []⟩ S (fun v S1 => v = (.int .i64 p) ∧ S1 = S) := by
  intro n
  induction n with
  | zero => intro _ _ _ _ _ _ _ _ _ _ _ _ _ _ _ _ _ _ _ _ _ _ _ _ _ _ _ _ _ _ _ _ _ _ _ _ _ _ _ _ _ _ _ _ _ h; cases h
  | succ n ih =>
    intro y0 y1 y12 y13 S p g2 g3 g4 g5 g6 g7 g8 g9 g10 g11 g14 g15 g16 g17 g18 g19 g20 g21 g22 g23 g24 g25 g26 g27 g28 g29 g30 g31 g32 g33 g34 g35 g36 g37 g38 g39 g40 g41 g42 h
    simp only [L0] at h
    refine hr_inLoop ?_
    refine q_seq rfl ?_
    refine q_region rfl rfl ?_
    refine qS 14 rfl (ok_ibin · (.tmp rfl) (.tmp rfl) rfl) ?_
    refine hr_region_end ?_
    try dsimp only [w0, w1, w2, w3]
    refine q_seq rfl ?_
    rcases ifc h with ⟨hc1, h⟩ | ⟨hc1, h⟩
    · refine q_cond_t rfl (.tmp rfl) (decide_eq_true hc1) ?_
      refine q_skipc rfl ?_
      refine q_seq rfl ?_
      refine q_block rfl ?_
      refine q_seq rfl ?_
      refine q_region rfl rfl ?_
      refine qS 15 rfl (ok_move · (.tmp rfl)) ?_
      refine qS 5 rfl (ok_assign · (.tmp rfl)) ?_
      refine hr_region_end ?_
      try dsimp only [w0, w1, w2, w3]
      refine q_seq rfl ?_
      refine x_start (cls := [0, 0, 0, 0, 0, 0, 0, 0, 0, 0]) (rk := [0, 1, 2, 3, 4, 5, 6, 7, 8, 9]) rfl (by kernel_rfl) ?_
      refine yf 16 [0] rfl (ok_move · (.tmp rfl)) ?_
      refine yf 17 [5] rfl (ok_move · (.tmp rfl)) ?_
      obtain ⟨p2, hp2, h⟩ := bindo h
      refine yf 18 [16, 17] rfl (ok_index_s · tu9 (.tmp rfl) (.tmp rfl) hp2) ?_
      obtain ⟨p3, hp3, h⟩ := bindo h
      refine x_go (f_call (dst := some 19) (ts := [18]) rfl (by kernel_rfl) (.func _) (.cons (.tmp rfl) Evs.nil) (fun _ => (HInv.static fold_Byte.at_ fold_Byte.body (fold_Byte.snd  hp3)))) rfl ?_
      try dsimp only [w0, w1, w2, w3]
      refine yf 20 [1] rfl (ok_move · (.tmp rfl)) ?_
      refine yf 21 [5] rfl (ok_move · (.tmp rfl)) ?_
      obtain ⟨p4, hp4, h⟩ := bindo h
      refine yf 22 [20, 21] rfl (ok_index_s · tu9 (.tmp rfl) (.tmp rfl) hp4) ?_
      obtain ⟨p5, hp5, h⟩ := bindo h
      refine x_go (f_call (dst := some 23) (ts := [22]) rfl (by kernel_rfl) (.func _) (.cons (.tmp rfl) Evs.nil) (fun _ => (HInv.static fold_Byte.at_ fold_Byte.body (fold_Byte.snd  hp5)))) rfl ?_
      try dsimp only [w0, w1, w2, w3]
      refine yf 6 [19] rfl (ok_assign · (.tmp rfl)) ?_
      refine yf 7 [23] rfl (ok_assign · (.tmp rfl)) ?_
      refine x_rest rfl ?_
      refine hr_region_end ?_
      try dsimp only [w0, w1, w2, w3]
      refine q_seq rfl ?_
      refine q_seq rfl ?_
      refine q_region rfl rfl ?_
      refine qS 24 rfl (ok_move · (.tmp rfl)) ?_
      refine qS 25 rfl (ok_move · (.tmp rfl)) ?_
      refine qS 26 rfl (ok_ibin · (.tmp rfl) (.tmp rfl) rfl) ?_
      refine hr_region_end ?_
      try dsimp only [w0, w1, w2, w3]
      rcases ifc h with ⟨hc6, h⟩ | ⟨hc6, h⟩
      · refine q_cond_t rfl (.tmp rfl) (decide_eq_true hc6) ?_
        refine q_seq rfl ?_
        refine q_region rfl rfl ?_
        refine qS 4 rfl (ok_assign · (.int _ _)) ?_
        refine hr_region_end ?_
        try dsimp only [w0, w1, w2, w3]
        cases h
        exact q_ret rfl at_.at_ rfl (res1 rfl rfl) ⟨rfl, rfl⟩
      · refine q_cond_f rfl (.tmp rfl) (decide_eq_false hc6) ?_
        refine q_skipc rfl ?_
        refine q_seq rfl ?_
        refine q_region rfl rfl ?_
        refine qS 27 rfl (ok_move · (.tmp rfl)) ?_
        refine qS 28 rfl (ok_move · (.tmp rfl)) ?_
        refine qS 29 rfl (ok_ibin · (.tmp rfl) (.tmp rfl) rfl) ?_
        refine hr_region_end ?_
        try dsimp only [w0, w1, w2, w3]
        rcases ifc h with ⟨hc7, h⟩ | ⟨hc7, h⟩
        · refine q_cond_t rfl (.tmp rfl) (decide_eq_true hc7) ?_
          refine q_seq rfl ?_
          refine q_region rfl rfl ?_
          refine qS 4 rfl (ok_assign · (.int _ _)) ?_
          refine hr_region_end ?_
          try dsimp only [w0, w1, w2, w3]
          cases h
          exact q_ret rfl at_.at_ rfl (res1 rfl rfl) ⟨rfl, rfl⟩
        · refine q_cond_f rfl (.tmp rfl) (decide_eq_false hc7) ?_
          refine q_skipc rfl ?_
          refine hr_inBlock ?_
          refine q_region rfl rfl ?_
          refine qS 30 rfl (ok_ibin · (.tmp rfl) (.int _ _) rfl) ?_
          refine qS 13 rfl (ok_move · (.tmp rfl)) ?_
          refine hr_region_end ?_
          try dsimp only [w0, w1, w2, w3]
          try dsimp only [w0, w1, w2, w3]
          exact ih h
    · refine q_cond_f rfl (.tmp rfl) (decide_eq_false hc1) ?_
      refine q_exit rfl rfl ?_
      refine q_seq rfl ?_
      refine q_block rfl ?_
      refine q_seq rfl ?_
      refine q_region rfl rfl ?_
      refine qS 32 rfl (ok_move · (.tmp rfl)) ?_
      refine qS 33 rfl (ok_len_str · rfl tu9 (.tmp rfl)) ?_
      refine qS 34 rfl (ok_move · (.tmp rfl)) ?_
      refine qS 35 rfl (ok_len_str · rfl tu9 (.tmp rfl)) ?_
      try dsimp only [w0, w1, w2, w3]
      refine qS 36 rfl (ok_ibin · (.tmp rfl) (.tmp rfl) rfl) ?_
      refine qS 31 rfl (ok_assign · (.tmp rfl)) ?_
      refine hr_region_end ?_
      try dsimp only [w0, w1, w2, w3]
      rcases ifc h with ⟨hc8, h⟩ | ⟨hc8, h⟩
      · refine q_cond_t rfl (.tmp rfl) (decide_eq_true hc8) ?_
        refine q_seq rfl ?_
        refine q_region rfl rfl ?_
        refine qS 4 rfl (ok_assign · (.int _ _)) ?_
        refine hr_region_end ?_
        try dsimp only [w0, w1, w2, w3]
        cases h
        exact q_ret rfl at_.at_ rfl (res1 rfl rfl) ⟨rfl, rfl⟩
      · refine q_cond_f rfl (.tmp rfl) (decide_eq_false hc8) ?_
        refine q_seq rfl ?_
        refine q_region rfl rfl ?_
        refine qS 38 rfl (ok_move · (.tmp rfl)) ?_
        refine qS 39 rfl (ok_len_str · rfl tu9 (.tmp rfl)) ?_
        refine qS 40 rfl (ok_move · (.tmp rfl)) ?_
        refine qS 41 rfl (ok_len_str · rfl tu9 (.tmp rfl)) ?_
        try dsimp only [w0, w1, w2, w3]
        refine qS 42 rfl (ok_ibin · (.tmp rfl) (.tmp rfl) rfl) ?_
        refine qS 37 rfl (ok_assign · (.tmp rfl)) ?_
        refine hr_region_end ?_
        try dsimp only [w0, w1, w2, w3]
        rcases ifc h with ⟨hc9, h⟩ | ⟨hc9, h⟩
        · refine q_cond_t rfl (.tmp rfl) (decide_eq_true hc9) ?_
          refine q_seq rfl ?_
          refine q_region rfl rfl ?_
          refine qS 4 rfl (ok_assign · (.int _ _)) ?_
          refine hr_region_end ?_
          try dsimp only [w0, w1, w2, w3]
          cases h
          exact q_ret rfl at_.at_ rfl (res1 rfl rfl) ⟨rfl, rfl⟩
        · refine q_cond_f rfl (.tmp rfl) (decide_eq_false hc9) ?_
          refine q_skipc rfl ?_
          refine hr_inBlock ?_
          refine q_seq rfl ?_
          refine q_region rfl rfl ?_
          refine qS 4 rfl (ok_assign · (.int _ _)) ?_
          refine hr_region_end ?_
          try dsimp only [w0, w1, w2, w3]
          cases h
          exact q_ret rfl at_.at_ rfl (res1 rfl rfl) ⟨rfl, rfl⟩
def f (k : Nat) (x0 : (List UInt8)) (x1 : (List UInt8)) : Option (Int) :=
  L0 k k x0 x1 (mn (List.length x0 : Int) (List.length x1 : Int)) 0
theorem snd {k : Nat} {x0 : (List UInt8)} {x1 : (List UInt8)} {S : HS}  {p : Int} (h : f k x0 x1 = some p) : HCall Try.prog base W0 β0 49 [(.str x0), (.str x1)] S (fun v S1 => v = (.int .i64 p) ∧ S1 = S) := by
  unfold f at h
  refine HCall.of_run at_.at_ body ?_
  show HRun Try.prog base W0 β0 49 none [.code c0] ⟨[(.str x0), (.str x1), τ, τ, τ, τ, τ, τ, τ, τ, τ, τ, τ, τ, τ, τ, τ, τ, τ, τ, τ, τ, τ, τ, τ, τ, τ, τ, τ, τ, τ, τ, τ, τ, τ, τ, τ, τ, τ, τ, τ, τ, τ], []⟩ S _
  refine q_seq rfl ?_
  refine q_region rfl rfl ?_
  refine qS 4 rfl (ok_assign · (.int _ _)) ?_
  refine hr_region_end ?_
  try dsimp only [w0, w1, w2, w3]
  refine q_seq rfl ?_
  refine q_seq rfl ?_
  refine q_region rfl rfl ?_
  refine qS 8 rfl (ok_move · (.tmp rfl)) ?_
  refine qS 9 rfl (ok_len_str · rfl tu9 (.tmp rfl)) ?_
  refine qS 10 rfl (ok_move · (.tmp rfl)) ?_
  refine qS 11 rfl (ok_len_str · rfl tu9 (.tmp rfl)) ?_
  try dsimp only [w0, w1, w2, w3]
  refine qS 12 rfl (ok_min · (.tmp rfl) (.tmp rfl)) ?_
  refine qS 13 rfl (ok_move · (.int _ _)) ?_
  refine hr_region_end ?_
  try dsimp only [w0, w1, w2, w3]
  refine q_block rfl ?_
  refine q_loop rfl ?_
  try dsimp only [w0, w1, w2, w3]
  exact L0_snd  h
end
end fold_Compare
namespace book_Book_int_at_1
theorem at_ : FnAt Try.prog 59 Try.f59 := ⟨Try.func59, by kernel_rfl⟩
noncomputable def d0 := (Try.f59.body).getD .skip
noncomputable def r1 := kR (kA d0)
noncomputable def r3 := kR (kA (kB d0))
noncomputable def c0 : Code := .seq (.region 0 r1 false) (.seq (.region 1 r3 false) .ret)
theorem body : Try.f59.body = some c0 := by kernel_rfl
section
variable {base : Nat} {W0 : World} {β0 : Bt}
def f (k : Nat) (x0_0 : (List UInt8)) (x0_1 : Int) (x1 : (List UInt8)) (S : HS) : Option ((Int) × HS) :=
  (letv (HS.new S (.cells 2 [[(.str x0_0), (.int .i64 x0_1)]] true)) fun p1 =>
  (Option.bind (HS.ldS p1 (HA.fld (HA.cell0 S.next) 0)) fun p2 =>
  (Option.bind (fold_Compare.f k p2 x1) fun p3 =>
  some (p3, p1))))
theorem snd {k : Nat} {x0_0 : (List UInt8)} {x0_1 : Int} {x1 : (List UInt8)} {S : HS}  {p : (Int) × HS} (h : f k x0_0 x0_1 x1 S = some p) : HCall Try.prog base W0 β0 59 [(.agg [(.str x0_0), (.int .i64 x0_1)]), (.str x1)] S (fun v S1 => v = (.int .i64 p.1) ∧ S1 = p.2) := by
  unfold f at h
  refine HCall.of_run at_.at_ body ?_
  show HRun Try.prog base W0 β0 59 none [.code c0] ⟨[(.agg [(.str x0_0), (.int .i64 x0_1)]), (.str x1), τ, τ, τ, τ, τ, τ, τ], []⟩ S _
  refine q_seq rfl ?_
  refine q_region rfl rfl ?_
  obtain ⟨p1, hp1, h⟩ := leto h
  refine qS 2 rfl (ok_box_e · (.tmp rfl) (Nat.zero_lt_succ _) rfl hp1) ?_
  refine qS 4 rfl (ok_assign · (.int _ _)) ?_
  refine hr_region_end ?_
  try dsimp only [w0, w1, w2, w3]
  refine q_seq rfl ?_
  refine q_region rfl rfl ?_
  refine qS 5 rfl (ok_fieldAddr_s · fi90_0 (by decide) (.tmp rfl) rfl) ?_
  obtain ⟨p2, hp2, h⟩ := bindo h
  refine qS 6 rfl (ok_load_s · sc9 (.tmp rfl) rfl (ldS_out hp2)) ?_
  refine qS 7 rfl (ok_move · (.tmp rfl)) ?_
  obtain ⟨p3, hp3, h⟩ := bindo h
  refine q_call (dst := some 8) rfl (.func _) (.cons (.tmp rfl) (.cons (.tmp rfl) Evs.nil)) (HInv.static fold_Compare.at_ fold_Compare.body (fold_Compare.snd  hp3)) ?_
  rintro _ _ ⟨rfl, rfl⟩
  try dsimp only [w0, w1, w2, w3]
  refine qS 4 rfl (ok_assign · (.tmp rfl)) ?_
  refine hr_region_end ?_
  try dsimp only [w0, w1, w2, w3]
  cases h
  exact q_ret rfl at_.at_ rfl (res1 rfl rfl) ⟨rfl, rfl⟩
end
end book_Book_int_at_1
namespace book_Book_int_at
theorem at_ : FnAt Try.prog 41 Try.f41 := ⟨Try.func41, by kernel_rfl⟩
noncomputable def d0 := (Try.f41.body).getD .skip
noncomputable def r1 := kR (kA d0)
noncomputable def r4 := kR (kA (kA (kB d0)))
noncomputable def r7 := kR (kA (kA (kB (kA (kB d0)))))
noncomputable def r11 := kR (kA (kB (kB d0)))
noncomputable def c0 : Code := .seq (.region 0 r1 false) (.seq (.seq (.region 1 r4 false) (.cond (.tmp 7) (.seq (.region 2 r7 false) .ret) .skip)) (.seq (.region 3 r11 false) .ret))
theorem body : Try.f41.body = some c0 := by kernel_rfl
section
variable {base : Nat} {W0 : World} {β0 : Bt}
def f (D : Dp) (H : Hd) (k : Nat) (x0 : (Option HA)) (x1 : (List UInt8)) (S : HS) : Option ((Int × Bool) × HS) :=
  (if (Option.isNone x0) = true then
  some ((0, false), S) else
  (Option.bind (x0) fun p2 =>
  (Option.bind (HS.ldSl S (HA.fld p2 1)) fun p3 =>
  (Option.bind (slices_BinarySearchFunc_book_entry_int_book_entry_int_string.f D H k p3 x1 (HV.fn (.func 59) [] []) S) fun p4 =>
  some ((p4.1.1, p4.1.2), p4.2)))))
theorem snd {D : Dp} {H : Hd} {k : Nat} {x0 : (Option HA)} {x1 : (List UInt8)} {S : HS} (hD : DSound Try.prog base W0 D) (hH : HSound Try.prog base W0 β0 H)  {p : (Int × Bool) × HS} (h : f D H k x0 x1 S = some p) : HCall Try.prog base W0 β0 41 [(.ptr x0), (.str x1)] S (fun v S1 => v = (.tup [(.int .i64 p.1.1), (.bool p.1.2)]) ∧ S1 = p.2) := by
  unfold f at h
  refine HCall.of_run at_.at_ body ?_
  show HRun Try.prog base W0 β0 41 none [.code c0] ⟨[(.ptr x0), (.str x1), τ, τ, τ, τ, τ, τ, τ, τ, τ, τ, τ, τ, τ, τ], []⟩ S _
  refine q_seq rfl ?_
  refine q_region rfl rfl ?_
  refine qS 4 rfl (ok_assign · (.int _ _)) ?_
  refine qS 5 rfl (ok_assign · (.bool _)) ?_
  refine hr_region_end ?_
  try dsimp only [w0, w1, w2, w3]
  refine q_seq rfl ?_
  refine q_seq rfl ?_
  refine q_region rfl rfl ?_
  refine qS 6 rfl (ok_move · (.tmp rfl)) ?_
  refine qS 7 rfl (ok_nil_ptr · tu44 (.tmp rfl) (.inl ⟨rfl, rfl⟩)) ?_
  refine hr_region_end ?_
  try dsimp only [w0, w1, w2, w3]
  rcases ifc h with ⟨hc1, h⟩ | ⟨hc1, h⟩
  · refine q_cond_t rfl (.tmp rfl) hc1 ?_
    refine q_seq rfl ?_
    refine q_region rfl rfl ?_
    refine qS 4 rfl (ok_assign · (.int _ _)) ?_
    refine qS 5 rfl (ok_assign · (.bool _)) ?_
    refine hr_region_end ?_
    try dsimp only [w0, w1, w2, w3]
    cases h
    exact q_ret rfl at_.at_ rfl (res2 rfl rfl rfl) ⟨rfl, rfl⟩
  · refine q_cond_f rfl (.tmp rfl) (bfalse hc1) ?_
    refine q_skipc rfl ?_
    refine q_seq rfl ?_
    refine q_region rfl rfl ?_
    refine qS 8 rfl (ok_move · (.tmp rfl)) ?_
    obtain ⟨p2, hp2, h⟩ := bindo h
    refine qS 9 rfl (ok_nilCheck_p · (.tmp rfl) hp2) ?_
    refine qS 10 rfl (ok_fieldAddr_s · fi87_1 (by decide) (.tmp rfl) rfl) ?_
    obtain ⟨p3, hp3, h⟩ := bindo h
    refine qS 11 rfl (ok_load_s · sc85 (.tmp rfl) rfl (ldSl_out hp3)) ?_
    try dsimp only [w0, w1, w2, w3]
    refine qS 12 rfl (ok_move · (.tmp rfl)) ?_
    obtain ⟨p4, hp4, h⟩ := bindo h
    refine q_call (dst := some 13) rfl (.func _) (.cons (.tmp rfl) (.cons (.tmp rfl) (.cons (.func _) Evs.nil))) (HInv.static slices_BinarySearchFunc_book_entry_int_book_entry_int_string.at_ slices_BinarySearchFunc_book_entry_int_book_entry_int_string.body (slices_BinarySearchFunc_book_entry_int_book_entry_int_string.snd hD hH hp4)) ?_
    rintro _ _ ⟨rfl, rfl⟩
    refine qS 14 rfl (ok_extract · (.tmp rfl) rfl) ?_
    refine qS 15 rfl (ok_extract · (.tmp rfl) rfl) ?_
    try dsimp only [w0, w1, w2, w3]
    refine qS 4 rfl (ok_assign · (.tmp rfl)) ?_
    refine qS 5 rfl (ok_assign · (.tmp rfl)) ?_
    refine hr_region_end ?_
    try dsimp only [w0, w1, w2, w3]
    cases h
    exact q_ret rfl at_.at_ rfl (res2 rfl rfl rfl) ⟨rfl, rfl⟩
end
end book_Book_int_at
namespace slices_Reverse_book_entry_int_book_entry_int
theorem at_ : FnAt Try.prog 72 Try.f72 := ⟨Try.func72, by kernel_rfl⟩
noncomputable def d0 := (Try.f72.body).getD .skip
noncomputable def r1 := kR (kA d0)
noncomputable def r6 := kR (kA (kA (kA (kA (kB d0)))))
noncomputable def r12 := kR (kA (kA (kB (kA (kA (kB d0))))))
noncomputable def r13 := kR (kB (kB (kA (kA (kB d0)))))
noncomputable def c4 : Code := .seq (.seq (.region 1 r6 false) (.cond (.tmp 9) .skip (.exit 0))) (.seq (.block 1 (.region 3 r12 true)) (.region 2 r13 false))
noncomputable def c0 : Code := .seq (.region 0 r1 false) (.block 0 (.loop c4))
theorem body : Try.f72.body = some c0 := by kernel_rfl
section
variable {base : Nat} {W0 : World} {β0 : Bt}
def L0 (k : Nat) : Nat → Sl → Int → Int → HS → Option ((Unit) × HS)
  | 0, _, _, _, _ => none
  | n + 1, y0, y2, y3, S =>
    (if y2 < y3 then
    (Option.bind (HS.idx S y0 y3 2) fun p2 =>
    (Option.bind (HS.ldS S (HA.fld p2 0)) fun p3 =>
    (Option.bind (HS.ldI S .i64 (HA.fld p2 1)) fun p4 =>
    (Option.bind (HS.idx S y0 y2 2) fun p5 =>
    (Option.bind (HS.ldS S (HA.fld p5 0)) fun p6 =>
    (Option.bind (HS.ldI S .i64 (HA.fld p5 1)) fun p7 =>
    (Option.bind (HS.idx S y0 y2 2) fun p8 =>
    (Option.bind (HS.sets S p8 [(.str p3), (.int .i64 p4)]) fun p9 =>
    (Option.bind (HS.idx p9 y0 y3 2) fun p10 =>
    (Option.bind (HS.sets p9 p10 [(.str p6), (.int .i64 p7)]) fun p11 =>
    (L0 k n) y0 (w64 (y2 + 1)) (w64 (y3 - 1)) p11)))))))))) else
    some ((), S))
theorem L0_snd {k : Nat}  : ∀ {n : Nat} ⦃y0 : Sl⦄ ⦃y2 : Int⦄ ⦃y3 : Int⦄ ⦃S : HS⦄ ⦃p : (Unit) × HS⦄ ⦃g1 g4 g5 g6 g7 g8 g9 g10 g11 g12 g13 g14 g15 g16 g17 g18 g19 g20 g21 g22 g23 g24 g25 g26 g27 : HV⦄, L0 k n y0 y2 y3 S = some p → HRun Try.prog base W0 β0 72 none [.inLoop c4, .inBlock 0] ⟨[(Sl.hv y0), g1, (.int .i64 y2), (.int .i64 y3), g4, g5, g6, g7, g8, g9, g10, g11, g12, g13, g14, g15, g16, g17, g18, g19, g20, g21, g22, g23, g24, g25, g26, g27], []⟩ S (fun v S1 => v = (.tup []) ∧ S1 = p.2) := by
  intro n
  induction n with
  | zero => intro _ _ _ _ _ _ _ _ _ _ _ _ _ _ _ _ _ _ _ _ _ _ _ _ _ _ _ _ _ _ h; cases h
  | succ n ih =>
    intro y0 y2 y3 S p g1 g4 g5 g6 g7 g8 g9 g10 g11 g12 g13 g14 g15 g16 g17 g18 g19 g20 g21 g22 g23 g24 g25 g26 g27 h
    simp only [L0] at h
    refine hr_inLoop ?_
    refine q_seq rfl ?_
    refine q_seq rfl ?_
    refine q_region rfl rfl ?_
    refine qS 7 rfl (ok_move · (.tmp rfl)) ?_
    refine qS 8 rfl (ok_move · (.tmp rfl)) ?_
    refine qS 9 rfl (ok_ibin · (.tmp rfl) (.tmp rfl) rfl) ?_
    refine hr_region_end ?_
    try dsimp only [w0, w1, w2, w3]
    rcases ifc h with ⟨hc1, h⟩ | ⟨hc1, h⟩
    · refine q_cond_t rfl (.tmp rfl) (decide_eq_true hc1) ?_
      refine q_skipc rfl ?_
      refine q_seq rfl ?_
      refine q_block rfl ?_
      refine x_start (cls := [0, 0, 0, 0, 0, 0, 1, 1, 0, 0, 1, 1, 1, 2, 1, 2]) (rk := [0, 1, 12, 13, 2, 3, 4, 5, 6, 7, 8, 9, 10, 11, 14, 15]) rfl (by kernel_rfl) ?_
      refine yf 14 [0] rfl (ok_move · (.tmp rfl)) ?_
      refine yf 15 [2] rfl (ok_move · (.tmp rfl)) ?_
      refine yf 16 [0] rfl (ok_move · (.tmp rfl)) ?_
      refine yf 17 [3] rfl (ok_move · (.tmp rfl)) ?_
      try dsimp only [w0, w1, w2, w3]
      refine yf 18 [0] rfl (ok_move · (.tmp rfl)) ?_
      refine yf 19 [3] rfl (ok_move · (.tmp rfl)) ?_
      obtain ⟨p2, hp2, h⟩ := bindo h
      refine yr 20 [18, 19] rfl (ok_indexAddr (s := y0) · tu85 sz90 (.tmp rfl) (.tmp rfl) hp2) ?_
      obtain ⟨p3, hp3, h⟩ := bindo h
      obtain ⟨p4, hp4, h⟩ := bindo h
      refine yr 21 [20] rfl (ok_load_a (vs := [(.str p3), (.int .i64 p4)]) · ia90 (.tmp rfl) rfl ⟨ldS_out hp3, ldI_out hp4, trivial⟩ (by simp)) ?_
      try dsimp only [w0, w1, w2, w3]
      refine yf 22 [0] rfl (ok_move · (.tmp rfl)) ?_
      refine yf 23 [2] rfl (ok_move · (.tmp rfl)) ?_
      obtain ⟨p5, hp5, h⟩ := bindo h
      refine yr 24 [22, 23] rfl (ok_indexAddr (s := y0) · tu85 sz90 (.tmp rfl) (.tmp rfl) hp5) ?_
      obtain ⟨p6, hp6, h⟩ := bindo h
      obtain ⟨p7, hp7, h⟩ := bindo h
      refine yr 25 [24] rfl (ok_load_a (vs := [(.str p6), (.int .i64 p7)]) · ia90 (.tmp rfl) rfl ⟨ldS_out hp6, ldI_out hp7, trivial⟩ (by simp)) ?_
      try dsimp only [w0, w1, w2, w3]
      obtain ⟨p8, hp8, h⟩ := bindo h
      refine yr 26 [14, 15] rfl (ok_indexAddr (s := y0) · tu85 sz90 (.tmp rfl) (.tmp rfl) hp8) ?_
      obtain ⟨p9, hp9, h⟩ := bindo h
      refine x_go (e_op (dst := none) (ts := [26, 21]) rfl (by intro _ _ h; cases h) (by kernel_rfl) (fun _ ho => ok_store_s (v := (.agg [(.str p3), (.int .i64 p4)])) ho sz90 (.tmp rfl) rfl (.tmp rfl) rfl hp9)) rfl ?_
      obtain ⟨p10, hp10, h⟩ := bindo h
      refine yr 27 [16, 17] rfl (ok_indexAddr (s := y0) · tu85 sz90 (.tmp rfl) (.tmp rfl) hp10) ?_
      obtain ⟨p11, hp11, h⟩ := bindo h
      refine x_go (e_op (dst := none) (ts := [27, 25]) rfl (by intro _ _ h; cases h) (by kernel_rfl) (fun _ ho => ok_store_s (v := (.agg [(.str p6), (.int .i64 p7)])) ho sz90 (.tmp rfl) rfl (.tmp rfl) rfl hp11)) rfl ?_
      refine x_rest rfl ?_
      refine hr_region_end ?_
      try dsimp only [w0, w1, w2, w3]
      refine hr_inBlock ?_
      refine q_region rfl rfl ?_
      refine qS 10 rfl (ok_move · (.tmp rfl)) ?_
      refine qS 11 rfl (ok_ibin · (.tmp rfl) (.int _ _) rfl) ?_
      refine qS 12 rfl (ok_move · (.tmp rfl)) ?_
      refine qS 13 rfl (ok_ibin · (.tmp rfl) (.int _ _) rfl) ?_
      try dsimp only [w0, w1, w2, w3]
      refine qS 2 rfl (ok_assign · (.tmp rfl)) ?_
      refine qS 3 rfl (ok_assign · (.tmp rfl)) ?_
      refine hr_region_end ?_
      try dsimp only [w0, w1, w2, w3]
      try dsimp only [w0, w1, w2, w3]
      exact ih h
    · refine q_cond_f rfl (.tmp rfl) (decide_eq_false hc1) ?_
      refine q_exit rfl rfl ?_
      cases h
      exact q_end at_.at_ rfl (res0 rfl) ⟨rfl, rfl⟩
def f (k : Nat) (x0 : Sl) (S : HS) : Option ((Unit) × HS) :=
  L0 k k x0 0 (w64 ((Sl.len x0 : Int) - 1)) S
theorem snd {k : Nat} {x0 : Sl} {S : HS}  {p : (Unit) × HS} (h : f k x0 S = some p) : HCall Try.prog base W0 β0 72 [(Sl.hv x0)] S (fun v S1 => v = (.tup []) ∧ S1 = p.2) := by
  unfold f at h
  refine HCall.of_run at_.at_ body ?_
  show HRun Try.prog base W0 β0 72 none [.code c0] ⟨[(Sl.hv x0), τ, τ, τ, τ, τ, τ, τ, τ, τ, τ, τ, τ, τ, τ, τ, τ, τ, τ, τ, τ, τ, τ, τ, τ, τ, τ, τ], []⟩ S _
  refine q_seq rfl ?_
  refine q_region rfl rfl ?_
  refine qS 4 rfl (ok_move · (.tmp rfl)) ?_
  refine qS 5 rfl (ok_len_sl (q := Sl.a x0) (n := Sl.len x0) (z := Sl.cap x0) · rfl tu85 (.tmp rfl)) ?_
  refine qS 6 rfl (ok_ibin · (.tmp rfl) (.int _ _) rfl) ?_
  refine qS 2 rfl (ok_assign · (.int _ _)) ?_
  try dsimp only [w0, w1, w2, w3]
  refine qS 3 rfl (ok_assign · (.tmp rfl)) ?_
  refine hr_region_end ?_
  try dsimp only [w0, w1, w2, w3]
  refine q_block rfl ?_
  refine q_loop rfl ?_
  try dsimp only [w0, w1, w2, w3]
  exact L0_snd  h
end
end slices_Reverse_book_entry_int_book_entry_int
namespace slices_rotateLeft_book_entry_int
theorem at_ : FnAt Try.prog 68 Try.f68 := ⟨Try.func68, by kernel_rfl⟩
noncomputable def d0 := (Try.f68.body).getD .skip
noncomputable def r1 := kR (kA d0)
noncomputable def r3 := kR (kA (kB d0))
noncomputable def r4 := kR (kB (kB d0))
noncomputable def c0 : Code := .seq (.region 0 r1 false) (.seq (.region 1 r3 false) (.region 2 r4 false))
theorem body : Try.f68.body = some c0 := by kernel_rfl
section
variable {base : Nat} {W0 : World} {β0 : Bt}
def f (k : Nat) (x0 : Sl) (x1 : Int) (S : HS) : Option ((Unit) × HS) :=
  (Option.bind (HS.cut S x0 0 x1 2) fun p1 =>
  (Option.bind (slices_Reverse_book_entry_int_book_entry_int.f k p1 S) fun p2 =>
  (Option.bind (HS.cut p2.2 x0 x1 (Sl.len x0 : Int) 2) fun p3 =>
  (Option.bind (slices_Reverse_book_entry_int_book_entry_int.f k p3 p2.2) fun p4 =>
  (Option.bind (slices_Reverse_book_entry_int_book_entry_int.f k x0 p4.2) fun p5 =>
  some ((), p5.2))))))
theorem snd {k : Nat} {x0 : Sl} {x1 : Int} {S : HS}  {p : (Unit) × HS} (h : f k x0 x1 S = some p) : HCall Try.prog base W0 β0 68 [(Sl.hv x0), (.int .i64 x1)] S (fun v S1 => v = (.tup []) ∧ S1 = p.2) := by
  unfold f at h
  refine HCall.of_run at_.at_ body ?_
  show HRun Try.prog base W0 β0 68 none [.code c0] ⟨[(Sl.hv x0), (.int .i64 x1), τ, τ, τ, τ, τ, τ, τ, τ, τ, τ, τ, τ], []⟩ S _
  refine q_seq rfl ?_
  refine q_region rfl rfl ?_
  refine qS 4 rfl (ok_move · (.tmp rfl)) ?_
  refine qS 5 rfl (ok_move · (.tmp rfl)) ?_
  obtain ⟨p1, hp1, h⟩ := bindo h
  refine qS 6 rfl (ok_slice (kl := .i64) (kh := .i64) (s := x0) (l := 0) (h := x1) · tu85 si90 (.tmp rfl) (.inl ⟨rfl, rfl⟩) (.inr ⟨_, rfl, (.tmp rfl)⟩) hp1) ?_
  obtain ⟨p2, hp2, h⟩ := bindo h
  refine q_call (dst := some 7) rfl (.func _) (.cons (.tmp rfl) Evs.nil) (HInv.static slices_Reverse_book_entry_int_book_entry_int.at_ slices_Reverse_book_entry_int_book_entry_int.body (slices_Reverse_book_entry_int_book_entry_int.snd  hp2)) ?_
  rintro _ _ ⟨rfl, rfl⟩
  refine hr_region_end ?_
  try dsimp only [w0, w1, w2, w3]
  refine q_seq rfl ?_
  refine q_region rfl rfl ?_
  refine qS 8 rfl (ok_move · (.tmp rfl)) ?_
  refine qS 9 rfl (ok_move · (.tmp rfl)) ?_
  obtain ⟨p3, hp3, h⟩ := bindo h
  refine qS 10 rfl (ok_slice (kl := .i64) (kh := .i64) (s := x0) (l := x1) (h := (Sl.len x0 : Int)) · tu85 si90 (.tmp rfl) (.inr ⟨_, rfl, (.tmp rfl)⟩) (.inl ⟨rfl, rfl⟩) hp3) ?_
  obtain ⟨p4, hp4, h⟩ := bindo h
  refine q_call (dst := some 11) rfl (.func _) (.cons (.tmp rfl) Evs.nil) (HInv.static slices_Reverse_book_entry_int_book_entry_int.at_ slices_Reverse_book_entry_int_book_entry_int.body (slices_Reverse_book_entry_int_book_entry_int.snd  hp4)) ?_
  rintro _ _ ⟨rfl, rfl⟩
  refine hr_region_end ?_
  try dsimp only [w0, w1, w2, w3]
  refine q_region rfl rfl ?_
  refine qS 12 rfl (ok_move · (.tmp rfl)) ?_
  obtain ⟨p5, hp5, h⟩ := bindo h
  refine q_call (dst := some 13) rfl (.func _) (.cons (.tmp rfl) Evs.nil) (HInv.static slices_Reverse_book_entry_int_book_entry_int.at_ slices_Reverse_book_entry_int_book_entry_int.body (slices_Reverse_book_entry_int_book_entry_int.snd  hp5)) ?_
  rintro _ _ ⟨rfl, rfl⟩
  refine hr_region_end ?_
  try dsimp only [w0, w1, w2, w3]
  cases h
  exact q_end at_.at_ rfl (res0 rfl) ⟨rfl, rfl⟩
end
end slices_rotateLeft_book_entry_int
namespace slices_rotateRight_book_entry_int
theorem at_ : FnAt Try.prog 61 Try.f61 := ⟨Try.func61, by kernel_rfl⟩
noncomputable def d0 := (Try.f61.body).getD .skip
noncomputable def r0 := kR d0
noncomputable def c0 : Code := .region 0 r0 false
theorem body : Try.f61.body = some c0 := by kernel_rfl
section
variable {base : Nat} {W0 : World} {β0 : Bt}
def f (k : Nat) (x0 : Sl) (x1 : Int) (S : HS) : Option ((Unit) × HS) :=
  (Option.bind (slices_rotateLeft_book_entry_int.f k x0 (w64 ((Sl.len x0 : Int) - x1)) S) fun p1 =>
  some ((), p1.2))
theorem snd {k : Nat} {x0 : Sl} {x1 : Int} {S : HS}  {p : (Unit) × HS} (h : f k x0 x1 S = some p) : HCall Try.prog base W0 β0 61 [(Sl.hv x0), (.int .i64 x1)] S (fun v S1 => v = (.tup []) ∧ S1 = p.2) := by
  unfold f at h
  refine HCall.of_run at_.at_ body ?_
  show HRun Try.prog base W0 β0 61 none [.code c0] ⟨[(Sl.hv x0), (.int .i64 x1), τ, τ, τ, τ, τ, τ, τ, τ], []⟩ S _
  refine q_region rfl rfl ?_
  refine qS 4 rfl (ok_move · (.tmp rfl)) ?_
  refine qS 5 rfl (ok_move · (.tmp rfl)) ?_
  refine qS 6 rfl (ok_len_sl (q := Sl.a x0) (n := Sl.len x0) (z := Sl.cap x0) · rfl tu85 (.tmp rfl)) ?_
  refine qS 7 rfl (ok_move · (.tmp rfl)) ?_
  try dsimp only [w0, w1, w2, w3]
  refine qS 8 rfl (ok_ibin · (.tmp rfl) (.tmp rfl) rfl) ?_
  obtain ⟨p1, hp1, h⟩ := bindo h
  refine q_call (dst := some 9) rfl (.func _) (.cons (.tmp rfl) (.cons (.tmp rfl) Evs.nil)) (HInv.static slices_rotateLeft_book_entry_int.at_ slices_rotateLeft_book_entry_int.body (slices_rotateLeft_book_entry_int.snd  hp1)) ?_
  rintro _ _ ⟨rfl, rfl⟩
  refine hr_region_end ?_
  try dsimp only [w0, w1, w2, w3]
  cases h
  exact q_end at_.at_ rfl (res0 rfl) ⟨rfl, rfl⟩
end
end slices_rotateRight_book_entry_int
namespace slices_Insert_book_entry_int_book_entry_int
theorem at_ : FnAt Try.prog 43 Try.f43 := ⟨Try.func43, by kernel_rfl⟩
noncomputable def d0 := (Try.f43.body).getD .skip
noncomputable def r1 := kR (kA d0)
noncomputable def r3 := kR (kA (kB d0))
noncomputable def r5 := kR (kA (kB (kB d0)))
noncomputable def d6 := kB (kB (kB d0))
noncomputable def r8 := kR (kA (kA d6))
noncomputable def r11 := kR (kA (kA (kB (kA d6))))
noncomputable def r15 := kR (kA (kB d6))
noncomputable def r18 := kR (kA (kA (kB (kB d6))))
noncomputable def r21 := kR (kA (kA (kB (kA (kB (kB d6))))))
noncomputable def d24 := kB (kB (kB d6))
noncomputable def r26 := kR (kA (kA d24))
noncomputable def d28 := kA (kB (kA d24))
noncomputable def r29 := kR (kA d28)
noncomputable def r31 := kR (kA (kB d28))
noncomputable def r33 := kR (kA (kB (kB d28)))
noncomputable def r35 := kR (kA (kB (kB (kB d28))))
noncomputable def r39 := kR (kA (kB d24))
noncomputable def d41 := kA (kB (kB d24))
noncomputable def r42 := kR (kA d41)
noncomputable def r45 := kR (kA (kA (kB d41)))
noncomputable def r47 := kR (kA (kB (kA (kB d41))))
noncomputable def r49 := kR (kA (kB (kB (kA (kB d41)))))
noncomputable def r53 := kR (kA (kB (kB (kB d24))))
noncomputable def r55 := kR (kA (kB (kB (kB (kB d24)))))
noncomputable def r57 := kR (kA (kB (kB (kB (kB (kB d24))))))
noncomputable def c0 : Code := .seq (.region 0 r1 false) (.seq (.region 1 r3 false) (.seq (.region 2 r5 false) (.seq (.seq (.region 3 r8 false) (.cond (.tmp 16) (.seq (.region 4 r11 false) .ret) .skip)) (.seq (.region 5 r15 false) (.seq (.seq (.region 6 r18 false) (.cond (.tmp 22) (.seq (.region 7 r21 false) .ret) .skip)) (.seq (.seq (.region 8 r26 false) (.cond (.tmp 31) (.seq (.region 9 r29 false) (.seq (.region 10 r31 false) (.seq (.region 11 r33 true) (.seq (.region 12 r35 false) .ret)))) .skip)) (.seq (.region 13 r39 false) (.seq (.seq (.region 14 r42 false) (.cond (.tmp 68) (.seq (.region 15 r45 true) (.seq (.region 16 r47 false) (.seq (.region 17 r49 false) .ret))) .skip)) (.seq (.region 18 r53 false) (.seq (.region 19 r55 false) (.seq (.region 20 r57 false) .ret)))))))))))
theorem body : Try.f43.body = some c0 := by kernel_rfl
section
variable {base : Nat} {W0 : World} {β0 : Bt}
def f (k : Nat) (x0 : Sl) (x1 : Int) (x2 : Sl) (S : HS) : Option ((Sl) × HS) :=
  (Option.bind (HS.cut S x0 x1 (Sl.len x0 : Int) 2) fun p1 =>
  (if (Sl.len x2 : Int) = 0 then
  some (x0, S) else
  (if x1 = (Sl.len x0 : Int) then
  (Option.bind (HS.rows S x2 2) fun p4 =>
  (Option.bind (HS.app S x0 p4 2) fun p5 =>
  some ((p5.1), (p5.2)))) else
  (Option.bind (Sl.capOf x0) fun p6 =>
  (if (w64 ((Sl.len x0 : Int) + (Sl.len x2 : Int))) > p6 then
  (Option.bind (HS.cut S x0 0 x1 2) fun p8 =>
  (Option.bind (HS.appZ S p8 (w64 ((w64 ((Sl.len x0 : Int) + (Sl.len x2 : Int))) - x1)) [(.str []), (.int .i64 0)] 2) fun p9 =>
  (Option.bind (HS.cut (p9.2) (p9.1) x1 (Sl.len (p9.1) : Int) 2) fun p10 =>
  (Option.bind (HS.rows (p9.2) x2 2) fun p11 =>
  (Option.bind (HS.over (p9.2) p10 (List.take (Sl.len p10) p11) 2) fun p12 =>
  (Option.bind (HS.cut p12 (p9.1) (w64 (x1 + (Sl.len x2 : Int))) (Sl.len (p9.1) : Int) 2) fun p13 =>
  (Option.bind (HS.cut p12 x0 x1 (Sl.len x0 : Int) 2) fun p14 =>
  (Option.bind (HS.rows p12 p14 2) fun p15 =>
  (Option.bind (HS.over p12 p13 (List.take (Sl.len p13) p15) 2) fun p16 =>
  some ((p9.1), p16)))))))))) else
  (Option.bind (HS.cut S x0 0 (w64 ((Sl.len x0 : Int) + (Sl.len x2 : Int))) 2) fun p17 =>
  (Option.bind (HS.cut S p17 (w64 (x1 + (Sl.len x2 : Int))) (Sl.len p17 : Int) 2) fun p18 =>
  (Option.bind (HS.ovl S x2 p18) fun p19 =>
  (if (!p19) = true then
  (Option.bind (HS.cut S p17 (w64 (x1 + (Sl.len x2 : Int))) (Sl.len p17 : Int) 2) fun p21 =>
  (Option.bind (HS.cut S p17 x1 (Sl.len p17 : Int) 2) fun p22 =>
  (Option.bind (HS.rows S p22 2) fun p23 =>
  (Option.bind (HS.over S p21 (List.take (Sl.len p21) p23) 2) fun p24 =>
  (Option.bind (HS.cut p24 p17 x1 (Sl.len p17 : Int) 2) fun p25 =>
  (Option.bind (HS.rows p24 x2 2) fun p26 =>
  (Option.bind (HS.over p24 p25 (List.take (Sl.len p25) p26) 2) fun p27 =>
  some (p17, p27)))))))) else
  (Option.bind (HS.cut S p17 (Sl.len x0 : Int) (Sl.len p17 : Int) 2) fun p28 =>
  (Option.bind (HS.rows S x2 2) fun p29 =>
  (Option.bind (HS.over S p28 (List.take (Sl.len p28) p29) 2) fun p30 =>
  (Option.bind (HS.cut p30 p17 x1 (Sl.len p17 : Int) 2) fun p31 =>
  (Option.bind (slices_rotateRight_book_entry_int.f k p31 (Sl.len x2 : Int) p30) fun p32 =>
  some (p17, p32.2)))))))))))))))
theorem snd {k : Nat} {x0 : Sl} {x1 : Int} {x2 : Sl} {S : HS}  {p : (Sl) × HS} (h : f k x0 x1 x2 S = some p) : HCall Try.prog base W0 β0 43 [(Sl.hv x0), (.int .i64 x1), (Sl.hv x2)] S (fun v S1 => v = (Sl.hv p.1) ∧ S1 = p.2) := by
  unfold f at h
  refine HCall.of_run at_.at_ body ?_
  show HRun Try.prog base W0 β0 43 none [.code c0] ⟨[(Sl.hv x0), (.int .i64 x1), (Sl.hv x2), τ, τ, τ, τ, τ, τ, τ, τ, τ, τ, τ, τ, τ, τ, τ, τ, τ, τ, τ, τ, τ, τ, τ, τ, τ, τ, τ, τ, τ, τ, τ, τ, τ, τ, τ, τ, τ, τ, τ, τ, τ, τ, τ, τ, τ, τ, τ, τ, τ, τ, τ, τ, τ, τ, τ, τ, τ, τ, τ, τ, τ, τ, τ, τ, τ, τ, τ, τ, τ, τ, τ, τ, τ, τ, τ, τ, τ, τ, τ, τ, τ, τ, τ, τ, τ, τ, τ, τ, τ, τ, τ, τ], []⟩ S _
  refine q_seq rfl ?_
  refine q_region rfl rfl ?_
  refine qS 6 rfl (ok_assign · (.const fun _ => .slNil none)) ?_
  refine hr_region_end ?_
  try dsimp only [w0, w1, w2, w3]
  refine q_seq rfl ?_
  refine q_region rfl rfl ?_
  refine qS 10 rfl (ok_move · (.tmp rfl)) ?_
  refine qS 11 rfl (ok_move · (.tmp rfl)) ?_
  obtain ⟨p1, hp1, h⟩ := bindo h
  refine qS 12 rfl (ok_slice (kl := .i64) (kh := .i64) (s := x0) (l := x1) (h := (Sl.len x0 : Int)) · tu85 si90 (.tmp rfl) (.inr ⟨_, rfl, (.tmp rfl)⟩) (.inl ⟨rfl, rfl⟩) hp1) ?_
  refine hr_region_end ?_
  try dsimp only [w0, w1, w2, w3]
  refine q_seq rfl ?_
  refine q_region rfl rfl ?_
  refine qS 13 rfl (ok_move · (.tmp rfl)) ?_
  refine qS 14 rfl (ok_len_sl (q := Sl.a x2) (n := Sl.len x2) (z := Sl.cap x2) · rfl tu85 (.tmp rfl)) ?_
  refine qS 7 rfl (ok_assign · (.tmp rfl)) ?_
  refine hr_region_end ?_
  try dsimp only [w0, w1, w2, w3]
  refine q_seq rfl ?_
  refine q_seq rfl ?_
  refine q_region rfl rfl ?_
  refine qS 15 rfl (ok_move · (.tmp rfl)) ?_
  refine qS 16 rfl (ok_ibin · (.tmp rfl) (.int _ _) rfl) ?_
  refine hr_region_end ?_
  try dsimp only [w0, w1, w2, w3]
  rcases ifc h with ⟨hc2, h⟩ | ⟨hc2, h⟩
  · refine q_cond_t rfl (.tmp rfl) (decide_eq_true hc2) ?_
    refine q_seq rfl ?_
    refine q_region rfl rfl ?_
    refine qS 17 rfl (ok_move · (.tmp rfl)) ?_
    refine qS 6 rfl (ok_assign · (.tmp rfl)) ?_
    refine hr_region_end ?_
    try dsimp only [w0, w1, w2, w3]
    cases h
    exact q_ret rfl at_.at_ rfl (res1 rfl rfl) ⟨rfl, rfl⟩
  · refine q_cond_f rfl (.tmp rfl) (decide_eq_false hc2) ?_
    refine q_skipc rfl ?_
    refine q_seq rfl ?_
    refine q_region rfl rfl ?_
    refine qS 18 rfl (ok_move · (.tmp rfl)) ?_
    refine qS 19 rfl (ok_len_sl (q := Sl.a x0) (n := Sl.len x0) (z := Sl.cap x0) · rfl tu85 (.tmp rfl)) ?_
    refine qS 8 rfl (ok_assign · (.tmp rfl)) ?_
    refine hr_region_end ?_
    try dsimp only [w0, w1, w2, w3]
    refine q_seq rfl ?_
    refine q_seq rfl ?_
    refine q_region rfl rfl ?_
    refine qS 20 rfl (ok_move · (.tmp rfl)) ?_
    refine qS 21 rfl (ok_move · (.tmp rfl)) ?_
    refine qS 22 rfl (ok_ibin · (.tmp rfl) (.tmp rfl) rfl) ?_
    refine hr_region_end ?_
    try dsimp only [w0, w1, w2, w3]
    rcases ifc h with ⟨hc3, h⟩ | ⟨hc3, h⟩
    · refine q_cond_t rfl (.tmp rfl) (decide_eq_true hc3) ?_
      refine q_seq rfl ?_
      refine q_region rfl rfl ?_
      refine qS 23 rfl (ok_move · (.tmp rfl)) ?_
      refine qS 24 rfl (ok_move · (.tmp rfl)) ?_
      obtain ⟨p4, hp4, h⟩ := bindo h
      obtain ⟨p5, hp5, h⟩ := bindo h
      refine qS 25 rfl (ok_append (s := x0) (s1 := x2) el85 · rfl rfl ⟨_, tu85⟩ (.tmp rfl) (.tmp rfl) hp4 hp5) ?_
      refine qS 6 rfl (ok_assign · (.tmp rfl)) ?_
      refine hr_region_end ?_
      try dsimp only [w0, w1, w2, w3]
      cases h
      exact q_ret rfl at_.at_ rfl (res1 rfl rfl) ⟨rfl, rfl⟩
    · refine q_cond_f rfl (.tmp rfl) (decide_eq_false hc3) ?_
      refine q_skipc rfl ?_
      refine q_seq rfl ?_
      refine q_seq rfl ?_
      refine q_region rfl rfl ?_
      refine qS 26 rfl (ok_move · (.tmp rfl)) ?_
      refine qS 27 rfl (ok_move · (.tmp rfl)) ?_
      refine qS 28 rfl (ok_ibin · (.tmp rfl) (.tmp rfl) rfl) ?_
      refine qS 29 rfl (ok_move · (.tmp rfl)) ?_
      try dsimp only [w0, w1, w2, w3]
      obtain ⟨p6, hp6, h⟩ := bindo h
      refine qS 30 rfl (ok_cap (s := x0) · rfl tu85 (.tmp rfl) hp6) ?_
      refine qS 31 rfl (ok_ibin · (.tmp rfl) (.tmp rfl) rfl) ?_
      refine hr_region_end ?_
      try dsimp only [w0, w1, w2, w3]
      rcases ifc h with ⟨hc7, h⟩ | ⟨hc7, h⟩
      · refine q_cond_t rfl (.tmp rfl) (decide_eq_true hc7) ?_
        refine q_seq rfl ?_
        refine q_region rfl rfl ?_
        refine qS 32 rfl (ok_move · (.tmp rfl)) ?_
        refine qS 33 rfl (ok_move · (.tmp rfl)) ?_
        obtain ⟨p8, hp8, h⟩ := bindo h
        refine qS 34 rfl (ok_slice (kl := .i64) (kh := .i64) (s := x0) (l := 0) (h := x1) · tu85 si90 (.tmp rfl) (.inl ⟨rfl, rfl⟩) (.inr ⟨_, rfl, (.tmp rfl)⟩) hp8) ?_
        refine qS 35 rfl (ok_move · (.tmp rfl)) ?_
        try dsimp only [w0, w1, w2, w3]
        refine qS 36 rfl (ok_move · (.tmp rfl)) ?_
        refine qS 37 rfl (ok_ibin · (.tmp rfl) (.tmp rfl) rfl) ?_
        refine qS 38 rfl (ok_move · (.tmp rfl)) ?_
        refine qS 39 rfl (ok_ibin · (.tmp rfl) (.tmp rfl) rfl) ?_
        try dsimp only [w0, w1, w2, w3]
        obtain ⟨p9, hp9, h⟩ := bindo h
        refine qS 40 rfl (ok_append_zeros (s := p8) el85 · rfl rfl tu3 (.tmp rfl) (.tmp rfl) hp9) ?_
        refine qS 9 rfl (ok_assign · (.tmp rfl)) ?_
        refine hr_region_end ?_
        try dsimp only [w0, w1, w2, w3]
        refine q_seq rfl ?_
        refine q_region rfl rfl ?_
        refine qS 41 rfl (ok_move · (.tmp rfl)) ?_
        refine qS 42 rfl (ok_move · (.tmp rfl)) ?_
        obtain ⟨p10, hp10, h⟩ := bindo h
        refine qS 43 rfl (ok_slice (kl := .i64) (kh := .i64) (s := (p9.1)) (l := x1) (h := (Sl.len (p9.1) : Int)) · tu85 si90 (.tmp rfl) (.inr ⟨_, rfl, (.tmp rfl)⟩) (.inl ⟨rfl, rfl⟩) hp10) ?_
        refine qS 44 rfl (ok_move · (.tmp rfl)) ?_
        try dsimp only [w0, w1, w2, w3]
        obtain ⟨p11, hp11, h⟩ := bindo h
        obtain ⟨p12, hp12, h⟩ := bindo h
        refine qS 45 rfl (ok_copy (s := p10) (s1 := x2) el85 · rfl (.tmp rfl) (.tmp rfl) hp11 hp12) ?_
        refine hr_region_end ?_
        try dsimp only [w0, w1, w2, w3]
        refine q_seq rfl ?_
        refine x_start (cls := [0, 0, 0, 0, 1, 0, 0, 1, 2]) (rk := [0, 1, 2, 3, 4, 5, 6, 7, 8]) rfl (by kernel_rfl) ?_
        refine yf 46 [9] rfl (ok_move · (.tmp rfl)) ?_
        refine yf 47 [1] rfl (ok_move · (.tmp rfl)) ?_
        refine yf 48 [7] rfl (ok_move · (.tmp rfl)) ?_
        refine yf 49 [47, 48] rfl (ok_ibin · (.tmp rfl) (.tmp rfl) rfl) ?_
        try dsimp only [w0, w1, w2, w3]
        obtain ⟨p13, hp13, h⟩ := bindo h
        refine yr 50 [46, 49] rfl (ok_slice (kl := .i64) (kh := .i64) (s := (p9.1)) (l := (w64 (x1 + (Sl.len x2 : Int)))) (h := (Sl.len (p9.1) : Int)) · tu85 si90 (.tmp rfl) (.inr ⟨_, rfl, (.tmp rfl)⟩) (.inl ⟨rfl, rfl⟩) hp13) ?_
        refine yf 51 [0] rfl (ok_move · (.tmp rfl)) ?_
        refine yf 52 [1] rfl (ok_move · (.tmp rfl)) ?_
        obtain ⟨p14, hp14, h⟩ := bindo h
        refine yr 53 [51, 52] rfl (ok_slice (kl := .i64) (kh := .i64) (s := x0) (l := x1) (h := (Sl.len x0 : Int)) · tu85 si90 (.tmp rfl) (.inr ⟨_, rfl, (.tmp rfl)⟩) (.inl ⟨rfl, rfl⟩) hp14) ?_
        try dsimp only [w0, w1, w2, w3]
        obtain ⟨p15, hp15, h⟩ := bindo h
        obtain ⟨p16, hp16, h⟩ := bindo h
        refine ye 54 [50, 53] rfl (ok_copy (s := p13) (s1 := p14) el85 · rfl (.tmp rfl) (.tmp rfl) hp15 hp16) ?_
        refine x_rest rfl ?_
        refine hr_region_end ?_
        try dsimp only [w0, w1, w2, w3]
        refine q_seq rfl ?_
        refine q_region rfl rfl ?_
        refine qS 55 rfl (ok_move · (.tmp rfl)) ?_
        refine qS 6 rfl (ok_assign · (.tmp rfl)) ?_
        refine hr_region_end ?_
        try dsimp only [w0, w1, w2, w3]
        cases h
        exact q_ret rfl at_.at_ rfl (res1 rfl rfl) ⟨rfl, rfl⟩
      · refine q_cond_f rfl (.tmp rfl) (decide_eq_false hc7) ?_
        refine q_skipc rfl ?_
        refine q_seq rfl ?_
        refine q_region rfl rfl ?_
        refine qS 56 rfl (ok_move · (.tmp rfl)) ?_
        refine qS 57 rfl (ok_move · (.tmp rfl)) ?_
        refine qS 58 rfl (ok_move · (.tmp rfl)) ?_
        refine qS 59 rfl (ok_ibin · (.tmp rfl) (.tmp rfl) rfl) ?_
        try dsimp only [w0, w1, w2, w3]
        obtain ⟨p17, hp17, h⟩ := bindo h
        refine qS 60 rfl (ok_slice (kl := .i64) (kh := .i64) (s := x0) (l := 0) (h := (w64 ((Sl.len x0 : Int) + (Sl.len x2 : Int)))) · tu85 si90 (.tmp rfl) (.inl ⟨rfl, rfl⟩) (.inr ⟨_, rfl, (.tmp rfl)⟩) hp17) ?_
        refine qS 0 rfl (ok_assign · (.tmp rfl)) ?_
        refine hr_region_end ?_
        try dsimp only [w0, w1, w2, w3]
        refine q_seq rfl ?_
        refine q_seq rfl ?_
        refine q_region rfl rfl ?_
        refine qS 61 rfl (ok_move · (.tmp rfl)) ?_
        refine qS 62 rfl (ok_move · (.tmp rfl)) ?_
        refine qS 63 rfl (ok_move · (.tmp rfl)) ?_
        refine qS 64 rfl (ok_move · (.tmp rfl)) ?_
        try dsimp only [w0, w1, w2, w3]
        refine qS 65 rfl (ok_ibin · (.tmp rfl) (.tmp rfl) rfl) ?_
        obtain ⟨p18, hp18, h⟩ := bindo h
        refine qS 66 rfl (ok_slice (kl := .i64) (kh := .i64) (s := p17) (l := (w64 (x1 + (Sl.len x2 : Int)))) (h := (Sl.len p17 : Int)) · tu85 si90 (.tmp rfl) (.inr ⟨_, rfl, (.tmp rfl)⟩) (.inl ⟨rfl, rfl⟩) hp18) ?_
        obtain ⟨p19, hp19, h⟩ := bindo h
        refine qS 67 rfl (ok_overlaps (s1 := x2) (s2 := p18) · ext60 tu85 si90 (.tmp rfl) (.tmp rfl) hp19) ?_
        refine qS 68 rfl (ok_not · (.tmp rfl)) ?_
        refine hr_region_end ?_
        try dsimp only [w0, w1, w2, w3]
        rcases ifc h with ⟨hc20, h⟩ | ⟨hc20, h⟩
        · refine q_cond_t rfl (.tmp rfl) hc20 ?_
          refine q_seq rfl ?_
          refine x_start (cls := [0, 0, 0, 0, 1, 0, 0, 1, 2]) (rk := [0, 1, 2, 3, 4, 5, 6, 7, 8]) rfl (by kernel_rfl) ?_
          refine yf 69 [0] rfl (ok_move · (.tmp rfl)) ?_
          refine yf 70 [1] rfl (ok_move · (.tmp rfl)) ?_
          refine yf 71 [7] rfl (ok_move · (.tmp rfl)) ?_
          refine yf 72 [70, 71] rfl (ok_ibin · (.tmp rfl) (.tmp rfl) rfl) ?_
          try dsimp only [w0, w1, w2, w3]
          obtain ⟨p21, hp21, h⟩ := bindo h
          refine yr 73 [69, 72] rfl (ok_slice (kl := .i64) (kh := .i64) (s := p17) (l := (w64 (x1 + (Sl.len x2 : Int)))) (h := (Sl.len p17 : Int)) · tu85 si90 (.tmp rfl) (.inr ⟨_, rfl, (.tmp rfl)⟩) (.inl ⟨rfl, rfl⟩) hp21) ?_
          refine yf 74 [0] rfl (ok_move · (.tmp rfl)) ?_
          refine yf 75 [1] rfl (ok_move · (.tmp rfl)) ?_
          obtain ⟨p22, hp22, h⟩ := bindo h
          refine yr 76 [74, 75] rfl (ok_slice (kl := .i64) (kh := .i64) (s := p17) (l := x1) (h := (Sl.len p17 : Int)) · tu85 si90 (.tmp rfl) (.inr ⟨_, rfl, (.tmp rfl)⟩) (.inl ⟨rfl, rfl⟩) hp22) ?_
          try dsimp only [w0, w1, w2, w3]
          obtain ⟨p23, hp23, h⟩ := bindo h
          obtain ⟨p24, hp24, h⟩ := bindo h
          refine ye 77 [73, 76] rfl (ok_copy (s := p21) (s1 := p22) el85 · rfl (.tmp rfl) (.tmp rfl) hp23 hp24) ?_
          refine x_rest rfl ?_
          refine hr_region_end ?_
          try dsimp only [w0, w1, w2, w3]
          refine q_seq rfl ?_
          refine q_region rfl rfl ?_
          refine qS 78 rfl (ok_move · (.tmp rfl)) ?_
          refine qS 79 rfl (ok_move · (.tmp rfl)) ?_
          obtain ⟨p25, hp25, h⟩ := bindo h
          refine qS 80 rfl (ok_slice (kl := .i64) (kh := .i64) (s := p17) (l := x1) (h := (Sl.len p17 : Int)) · tu85 si90 (.tmp rfl) (.inr ⟨_, rfl, (.tmp rfl)⟩) (.inl ⟨rfl, rfl⟩) hp25) ?_
          refine qS 81 rfl (ok_move · (.tmp rfl)) ?_
          try dsimp only [w0, w1, w2, w3]
          obtain ⟨p26, hp26, h⟩ := bindo h
          obtain ⟨p27, hp27, h⟩ := bindo h
          refine qS 82 rfl (ok_copy (s := p25) (s1 := x2) el85 · rfl (.tmp rfl) (.tmp rfl) hp26 hp27) ?_
          refine hr_region_end ?_
          try dsimp only [w0, w1, w2, w3]
          refine q_seq rfl ?_
          refine q_region rfl rfl ?_
          refine qS 83 rfl (ok_move · (.tmp rfl)) ?_
          refine qS 6 rfl (ok_assign · (.tmp rfl)) ?_
          refine hr_region_end ?_
          try dsimp only [w0, w1, w2, w3]
          cases h
          exact q_ret rfl at_.at_ rfl (res1 rfl rfl) ⟨rfl, rfl⟩
        · refine q_cond_f rfl (.tmp rfl) (bfalse hc20) ?_
          refine q_skipc rfl ?_
          refine q_seq rfl ?_
          refine q_region rfl rfl ?_
          refine qS 84 rfl (ok_move · (.tmp rfl)) ?_
          refine qS 85 rfl (ok_move · (.tmp rfl)) ?_
          obtain ⟨p28, hp28, h⟩ := bindo h
          refine qS 86 rfl (ok_slice (kl := .i64) (kh := .i64) (s := p17) (l := (Sl.len x0 : Int)) (h := (Sl.len p17 : Int)) · tu85 si90 (.tmp rfl) (.inr ⟨_, rfl, (.tmp rfl)⟩) (.inl ⟨rfl, rfl⟩) hp28) ?_
          refine qS 87 rfl (ok_move · (.tmp rfl)) ?_
          try dsimp only [w0, w1, w2, w3]
          obtain ⟨p29, hp29, h⟩ := bindo h
          obtain ⟨p30, hp30, h⟩ := bindo h
          refine qS 88 rfl (ok_copy (s := p28) (s1 := x2) el85 · rfl (.tmp rfl) (.tmp rfl) hp29 hp30) ?_
          refine hr_region_end ?_
          try dsimp only [w0, w1, w2, w3]
          refine q_seq rfl ?_
          refine q_region rfl rfl ?_
          refine qS 89 rfl (ok_move · (.tmp rfl)) ?_
          refine qS 90 rfl (ok_move · (.tmp rfl)) ?_
          obtain ⟨p31, hp31, h⟩ := bindo h
          refine qS 91 rfl (ok_slice (kl := .i64) (kh := .i64) (s := p17) (l := x1) (h := (Sl.len p17 : Int)) · tu85 si90 (.tmp rfl) (.inr ⟨_, rfl, (.tmp rfl)⟩) (.inl ⟨rfl, rfl⟩) hp31) ?_
          refine qS 92 rfl (ok_move · (.tmp rfl)) ?_
          try dsimp only [w0, w1, w2, w3]
          obtain ⟨p32, hp32, h⟩ := bindo h
          refine q_call (dst := some 93) rfl (.func _) (.cons (.tmp rfl) (.cons (.tmp rfl) Evs.nil)) (HInv.static slices_rotateRight_book_entry_int.at_ slices_rotateRight_book_entry_int.body (slices_rotateRight_book_entry_int.snd  hp32)) ?_
          rintro _ _ ⟨rfl, rfl⟩
          refine hr_region_end ?_
          try dsimp only [w0, w1, w2, w3]
          refine q_seq rfl ?_
          refine q_region rfl rfl ?_
          refine qS 94 rfl (ok_move · (.tmp rfl)) ?_
          refine qS 6 rfl (ok_assign · (.tmp rfl)) ?_
          refine hr_region_end ?_
          try dsimp only [w0, w1, w2, w3]
          cases h
          exact q_ret rfl at_.at_ rfl (res1 rfl rfl) ⟨rfl, rfl⟩
end
end slices_Insert_book_entry_int_book_entry_int
namespace slices_Insert_book_entry_int_book_entry_int_w
theorem at_ : FnAt Try.prog 43 Try.f43 := slices_Insert_book_entry_int_book_entry_int.at_
theorem body : Try.f43.body = some slices_Insert_book_entry_int_book_entry_int.c0 := slices_Insert_book_entry_int_book_entry_int.body
def f (x0 : Sl) (x1 : Int) (x2 : Sl) (S : HS) : Option ((Sl) × HS) := HS.ins S x0 x1 x2 2
theorem snd {base : Nat} {W0 : World} {β0 : Bt} {x0 : Sl} {x1 : Int} {x2 : Sl} {S : HS} {p : (Sl) × HS} (h : f x0 x1 x2 S = some p) : HCall Try.prog base W0 β0 43 [(Sl.hv x0), (.int .i64 x1), (Sl.hv x2)] S (fun v S1 => v = (Sl.hv p.1) ∧ S1 = p.2) :=
  ins_snd (rot := fun a b T => slices_rotateRight_book_entry_int.f 0 a b T) (zr := [(.str []), (.int .i64 0)]) (fun _ _ _ h => slices_Insert_book_entry_int_book_entry_int.snd (k := 0) h) h
end slices_Insert_book_entry_int_book_entry_int_w
namespace book_Book_int_Put
theorem at_ : FnAt Try.prog 23 Try.f23 := ⟨Try.func23, by kernel_rfl⟩
noncomputable def d0 := (Try.f23.body).getD .skip
noncomputable def r1 := kR (kA d0)
noncomputable def r4 := kR (kA (kA (kB d0)))
noncomputable def r7 := kR (kA (kA (kB (kA (kB d0)))))
noncomputable def r11 := kR (kA (kB (kB d0)))
noncomputable def d12 := kB (kB (kB d0))
noncomputable def r15 := kR (kA (kA (kA d12)))
noncomputable def d16 := kB (kA (kA d12))
noncomputable def r17 := kR (kA d16)
noncomputable def r19 := kR (kA (kB d16))
noncomputable def r22 := kR (kA (kA (kB (kB d16))))
noncomputable def r24 := kR (kB (kB (kB d16)))
noncomputable def r26 := kR (kA (kB d12))
noncomputable def c25 : Code := .seq (.region 9 r26 false) .ret
noncomputable def c0 : Code := .seq (.region 0 r1 false) (.seq (.seq (.region 1 r4 false) (.cond (.tmp 10) (.seq (.region 2 r7 false) .ret) .skip)) (.seq (.region 3 r11 false) (.seq (.block 0 (.seq (.region 5 r15 false) (.cond (.tmp 30) (.region 6 r17 false) (.seq (.region 7 r19 true) (.cond (.tmp 41) (.seq (.region 8 r22 false) .ret) (.region 4 r24 false)))))) c25)))
theorem body : Try.f23.body = some c0 := by kernel_rfl
section
variable {base : Nat} {W0 : World} {β0 : Bt}
def J0 (D : Dp) (H : Hd) (k : Nat) (S : HS) : Option ((Int) × HS) :=
  some (0, S)
theorem J0_snd {D : Dp} {H : Hd} {k : Nat} (hD : DSound Try.prog base W0 D) (hH : HSound Try.prog base W0 β0 H)  {S : HS} {p : (Int) × HS} {g0 g1 g2 g3 g4 g5 g6 g7 g8 g9 g10 g11 g12 g13 g14 g15 g16 g17 g18 g19 g20 g21 g22 g23 g24 g25 g26 g27 g28 g29 g30 g31 g32 g33 g34 g35 g36 g37 g38 g39 g40 g41 g42 g43 g44 g45 g46 g47 g48 g49 g50 g51 : HV} (h : J0 D H k S = some p) : HRun Try.prog base W0 β0 23 none [.code c25] ⟨[g0, g1, g2, g3, g4, g5, g6, g7, g8, g9, g10, g11, g12, g13, g14, g15, g16, g17, g18, g19, g20, g21, g22, g23, g24, g25, g26, g27, g28, g29, g30, g31, g32, g33, g34, g35, g36, g37, g38, g39, g40, g41, g42, g43, g44, g45, g46, g47, g48, g49, g50, g51], []⟩ S (fun v S1 => v = (.int .i64 p.1) ∧ S1 = p.2) := by
  unfold J0 at h
  refine q_seq rfl ?_
  refine q_region rfl rfl ?_
  refine qS 6 rfl (ok_assign · (.int _ _)) ?_
  refine hr_region_end ?_
  try dsimp only [w0, w1, w2, w3]
  cases h
  exact q_ret rfl at_.at_ rfl (res1 rfl rfl) ⟨rfl, rfl⟩
def f (D : Dp) (H : Hd) (k : Nat) (x0 : (Option HA)) (x1 : (List UInt8)) (x2 : Int) (S : HS) : Option ((Int) × HS) :=
  (if (Option.isNone x0) = true then
  some (1, S) else
  (Option.bind (book_Book_int_at.f D H k x0 x1 S) fun p2 =>
  (if p2.1.2 = true then
  (Option.bind (x0) fun p4 =>
  (Option.bind (HS.ldSl p2.2 (HA.fld p4 1)) fun p5 =>
  (Option.bind (HS.idx p2.2 p5 p2.1.1 2) fun p6 =>
  (Option.bind (HS.sets p2.2 p6 [(.str x1), (.int .i64 x2)]) fun p7 =>
  J0 D H k p7)))) else
  (Option.bind (x0) fun p8 =>
  (Option.bind (HS.ldSl p2.2 (HA.fld p8 1)) fun p9 =>
  (Option.bind (x0) fun p10 =>
  (Option.bind (HS.ldI p2.2 .i64 (HA.fld p10 0)) fun p11 =>
  (if (Sl.len p9 : Int) ≥ p11 then
  some (7, p2.2) else
  (Option.bind (x0) fun p13 =>
  (Option.bind (HS.ldSl p2.2 (HA.fld p13 1)) fun p14 =>
  (letv (HS.lit p2.2 [[(.str x1), (.int .i64 x2)]] 2) fun p15 =>
  (Option.bind (slices_Insert_book_entry_int_book_entry_int_w.f p14 p2.1.1 (p15.1) (p15.2)) fun p16 =>
  (Option.bind (x0) fun p17 =>
  (Option.bind (HS.sets p16.2 (HA.fld p17 1) [(Sl.hv p16.1)]) fun p18 =>
  J0 D H k p18))))))))))))))
theorem snd {D : Dp} {H : Hd} {k : Nat} {x0 : (Option HA)} {x1 : (List UInt8)} {x2 : Int} {S : HS} (hD : DSound Try.prog base W0 D) (hH : HSound Try.prog base W0 β0 H)  {p : (Int) × HS} (h : f D H k x0 x1 x2 S = some p) : HCall Try.prog base W0 β0 23 [(.ptr x0), (.str x1), (.int .i64 x2)] S (fun v S1 => v = (.int .i64 p.1) ∧ S1 = p.2) := by
  unfold f at h
  refine HCall.of_run at_.at_ body ?_
  show HRun Try.prog base W0 β0 23 none [.code c0] ⟨[(.ptr x0), (.str x1), (.int .i64 x2), τ, τ, τ, τ, τ, τ, τ, τ, τ, τ, τ, τ, τ, τ, τ, τ, τ, τ, τ, τ, τ, τ, τ, τ, τ, τ, τ, τ, τ, τ, τ, τ, τ, τ, τ, τ, τ, τ, τ, τ, τ, τ, τ, τ, τ, τ, τ, τ, τ], []⟩ S _
  refine q_seq rfl ?_
  refine q_region rfl rfl ?_
  refine qS 6 rfl (ok_assign · (.int _ _)) ?_
  refine hr_region_end ?_
  try dsimp only [w0, w1, w2, w3]
  refine q_seq rfl ?_
  refine q_seq rfl ?_
  refine q_region rfl rfl ?_
  refine qS 9 rfl (ok_move · (.tmp rfl)) ?_
  refine qS 10 rfl (ok_nil_ptr · tu44 (.tmp rfl) (.inl ⟨rfl, rfl⟩)) ?_
  refine hr_region_end ?_
  try dsimp only [w0, w1, w2, w3]
  rcases ifc h with ⟨hc1, h⟩ | ⟨hc1, h⟩
  · refine q_cond_t rfl (.tmp rfl) hc1 ?_
    refine q_seq rfl ?_
    refine q_region rfl rfl ?_
    refine qS 6 rfl (ok_assign · (.int _ _)) ?_
    refine hr_region_end ?_
    try dsimp only [w0, w1, w2, w3]
    cases h
    exact q_ret rfl at_.at_ rfl (res1 rfl rfl) ⟨rfl, rfl⟩
  · refine q_cond_f rfl (.tmp rfl) (bfalse hc1) ?_
    refine q_skipc rfl ?_
    refine q_seq rfl ?_
    refine q_region rfl rfl ?_
    refine qS 12 rfl (ok_move · (.tmp rfl)) ?_
    refine qS 13 rfl (ok_move · (.tmp rfl)) ?_
    obtain ⟨p2, hp2, h⟩ := bindo h
    refine q_call (dst := some 14) rfl (.func _) (.cons (.tmp rfl) (.cons (.tmp rfl) Evs.nil)) (HInv.static book_Book_int_at.at_ book_Book_int_at.body (book_Book_int_at.snd hD hH hp2)) ?_
    rintro _ _ ⟨rfl, rfl⟩
    refine qS 11 rfl (ok_move · (.tmp rfl)) ?_
    try dsimp only [w0, w1, w2, w3]
    refine qS 15 rfl (ok_extract · (.tmp rfl) rfl) ?_
    refine qS 16 rfl (ok_extract · (.tmp rfl) rfl) ?_
    refine qS 7 rfl (ok_assign · (.tmp rfl)) ?_
    refine qS 8 rfl (ok_assign · (.tmp rfl)) ?_
    refine hr_region_end ?_
    try dsimp only [w0, w1, w2, w3]
    refine q_seq rfl ?_
    refine q_block rfl ?_
    refine q_seq rfl ?_
    refine q_region rfl rfl ?_
    refine qS 31 rfl (ok_move · (.tmp rfl)) ?_
    refine qS 30 rfl (ok_assign · (.tmp rfl)) ?_
    refine hr_region_end ?_
    try dsimp only [w0, w1, w2, w3]
    rcases ifc h with ⟨hc3, h⟩ | ⟨hc3, h⟩
    · refine q_cond_t rfl (.tmp rfl) hc3 ?_
      refine q_region rfl rfl ?_
      refine qS 32 rfl (ok_move · (.tmp rfl)) ?_
      obtain ⟨p4, hp4, h⟩ := bindo h
      refine qS 33 rfl (ok_nilCheck_p · (.tmp rfl) hp4) ?_
      refine qS 34 rfl (ok_fieldAddr_s · fi87_1 (by decide) (.tmp rfl) rfl) ?_
      obtain ⟨p5, hp5, h⟩ := bindo h
      refine qS 35 rfl (ok_load_s · sc85 (.tmp rfl) rfl (ldSl_out hp5)) ?_
      try dsimp only [w0, w1, w2, w3]
      refine qS 36 rfl (ok_move · (.tmp rfl)) ?_
      refine qS 37 rfl (ok_move · (.tmp rfl)) ?_
      refine qS 38 rfl (ok_move · (.tmp rfl)) ?_
      refine qS 39 rfl (ok_build (is := [0, 1]) (xs := [(.tmp 37), (.tmp 38)]) (r := [(.str x1), (.int .i64 x2)]) st90 · rfl rfl (.cons (.tmp rfl) (.cons (.tmp rfl) Evs.nil)) rfl) ?_
      try dsimp only [w0, w1, w2, w3]
      obtain ⟨p6, hp6, h⟩ := bindo h
      refine qS 40 rfl (ok_indexAddr (s := p5) · tu85 sz90 (.tmp rfl) (.tmp rfl) hp6) ?_
      obtain ⟨p7, hp7, h⟩ := bindo h
      refine qN rfl (ok_store_s (v := (.agg [(.str x1), (.int .i64 x2)])) · sz90 (.tmp rfl) rfl (.tmp rfl) rfl hp7) ?_
      refine hr_region_end ?_
      try dsimp only [w0, w1, w2, w3]
      refine hr_inBlock ?_
      try dsimp only [w0, w1, w2, w3]
      exact J0_snd hD hH h
    · refine q_cond_f rfl (.tmp rfl) (bfalse hc3) ?_
      refine q_seq rfl ?_
      refine x_start (cls := [0, 0, 0, 1, 0, 0, 0, 0, 1, 0, 0]) (rk := [0, 1, 2, 3, 4, 5, 6, 7, 8, 9, 10]) rfl (by kernel_rfl) ?_
      refine yf 42 [0] rfl (ok_move · (.tmp rfl)) ?_
      obtain ⟨p8, hp8, h⟩ := bindo h
      refine yf 43 [42] rfl (ok_nilCheck_p · (.tmp rfl) hp8) ?_
      refine yf 44 [43] rfl (ok_fieldAddr_s · fi87_1 (by decide) (.tmp rfl) rfl) ?_
      obtain ⟨p9, hp9, h⟩ := bindo h
      refine yr 45 [44] rfl (ok_load_s · sc85 (.tmp rfl) rfl (ldSl_out hp9)) ?_
      try dsimp only [w0, w1, w2, w3]
      refine yf 46 [45] rfl (ok_len_sl (q := Sl.a p9) (n := Sl.len p9) (z := Sl.cap p9) · rfl tu85 (.tmp rfl)) ?_
      refine yf 47 [0] rfl (ok_move · (.tmp rfl)) ?_
      obtain ⟨p10, hp10, h⟩ := bindo h
      refine yf 48 [47] rfl (ok_nilCheck_p · (.tmp rfl) hp10) ?_
      refine yf 49 [48] rfl (ok_fieldAddr_s · fi87_0 (by decide) (.tmp rfl) rfl) ?_
      try dsimp only [w0, w1, w2, w3]
      obtain ⟨p11, hp11, h⟩ := bindo h
      refine yr 50 [49] rfl (ok_load_s · sc3 (.tmp rfl) rfl (ldI_out hp11)) ?_
      refine yf 51 [46, 50] rfl (ok_ibin · (.tmp rfl) (.tmp rfl) rfl) ?_
      refine yf 41 [51] rfl (ok_assign · (.tmp rfl)) ?_
      refine x_rest rfl ?_
      refine hr_region_end ?_
      try dsimp only [w0, w1, w2, w3]
      rcases ifc h with ⟨hc12, h⟩ | ⟨hc12, h⟩
      · refine q_cond_t rfl (.tmp rfl) (decide_eq_true hc12) ?_
        refine q_seq rfl ?_
        refine q_region rfl rfl ?_
        refine qS 6 rfl (ok_assign · (.int _ _)) ?_
        refine hr_region_end ?_
        try dsimp only [w0, w1, w2, w3]
        cases h
        exact q_ret rfl at_.at_ rfl (res1 rfl rfl) ⟨rfl, rfl⟩
      · refine q_cond_f rfl (.tmp rfl) (decide_eq_false hc12) ?_
        refine q_region rfl rfl ?_
        refine qS 17 rfl (ok_move · (.tmp rfl)) ?_
        refine qS 18 rfl (ok_move · (.tmp rfl)) ?_
        obtain ⟨p13, hp13, h⟩ := bindo h
        refine qS 19 rfl (ok_nilCheck_p · (.tmp rfl) hp13) ?_
        refine qS 20 rfl (ok_fieldAddr_s · fi87_1 (by decide) (.tmp rfl) rfl) ?_
        try dsimp only [w0, w1, w2, w3]
        obtain ⟨p14, hp14, h⟩ := bindo h
        refine qS 21 rfl (ok_load_s · sc85 (.tmp rfl) rfl (ldSl_out hp14)) ?_
        refine qS 22 rfl (ok_move · (.tmp rfl)) ?_
        refine qS 23 rfl (ok_move · (.tmp rfl)) ?_
        refine qS 24 rfl (ok_move · (.tmp rfl)) ?_
        try dsimp only [w0, w1, w2, w3]
        refine qS 25 rfl (ok_build (is := [0, 1]) (xs := [(.tmp 23), (.tmp 24)]) (r := [(.str x1), (.int .i64 x2)]) st90 · rfl rfl (.cons (.tmp rfl) (.cons (.tmp rfl) Evs.nil)) rfl) ?_
        obtain ⟨p15, hp15, h⟩ := leto h
        refine qS 26 rfl (ok_buildSlice_s (xs := [(.tmp 25)]) el85 · rfl rfl (by decide) (.cons (.tmp rfl) Evs.nil) rfl rfl hp15) ?_
        obtain ⟨p16, hp16, h⟩ := bindo h
        refine q_call (dst := some 27) rfl (.func _) (.cons (.tmp rfl) (.cons (.tmp rfl) (.cons (.tmp rfl) Evs.nil))) (HInv.static slices_Insert_book_entry_int_book_entry_int_w.at_ slices_Insert_book_entry_int_book_entry_int_w.body (slices_Insert_book_entry_int_book_entry_int_w.snd  hp16)) ?_
        rintro _ _ ⟨rfl, rfl⟩
        obtain ⟨p17, hp17, h⟩ := bindo h
        refine qS 28 rfl (ok_nilCheck_p · (.tmp rfl) hp17) ?_
        try dsimp only [w0, w1, w2, w3]
        refine qS 29 rfl (ok_fieldAddr_s · fi87_1 (by decide) (.tmp rfl) rfl) ?_
        obtain ⟨p18, hp18, h⟩ := bindo h
        refine qN rfl (ok_store_s (v := (Sl.hv p16.1)) · sz85 (.tmp rfl) rfl (.tmp rfl) rfl hp18) ?_
        refine hr_region_end ?_
        try dsimp only [w0, w1, w2, w3]
        refine hr_inBlock ?_
        try dsimp only [w0, w1, w2, w3]
        exact J0_snd hD hH h
end
end book_Book_int_Put
namespace book_Book_int_Name
theorem at_ : FnAt Try.prog 26 Try.f26 := ⟨Try.func26, by kernel_rfl⟩
noncomputable def d0 := (Try.f26.body).getD .skip
noncomputable def r1 := kR (kA d0)
noncomputable def r3 := kR (kA (kB d0))
noncomputable def r6 := kR (kA (kA (kB (kB d0))))
noncomputable def r9 := kR (kA (kA (kB (kA (kB (kB d0))))))
noncomputable def r13 := kR (kA (kB (kB (kB d0))))
noncomputable def c0 : Code := .seq (.region 0 r1 false) (.seq (.region 1 r3 false) (.seq (.seq (.region 2 r6 false) (.cond (.tmp 15) (.seq (.region 3 r9 false) .ret) .skip)) (.seq (.region 4 r13 false) .ret)))
theorem body : Try.f26.body = some c0 := by kernel_rfl
section
variable {base : Nat} {W0 : World} {β0 : Bt}
def f (D : Dp) (H : Hd) (k : Nat) (x0 : (Option HA)) (x1 : (List UInt8)) (S : HS) : Option (((List UInt8) × Bool) × HS) :=
  (Option.bind (book_Book_int_at.f D H k x0 x1 S) fun p1 =>
  (if (!p1.1.2) = true then
  some ((([] : List UInt8), false), p1.2) else
  (Option.bind (x0) fun p3 =>
  (Option.bind (HS.ldSl p1.2 (HA.fld p3 1)) fun p4 =>
  (Option.bind (HS.idx p1.2 p4 p1.1.1 2) fun p5 =>
  (Option.bind (HS.ldS p1.2 (HA.fld p5 0)) fun p6 =>
  some ((p6, true), p1.2)))))))
theorem snd {D : Dp} {H : Hd} {k : Nat} {x0 : (Option HA)} {x1 : (List UInt8)} {S : HS} (hD : DSound Try.prog base W0 D) (hH : HSound Try.prog base W0 β0 H)  {p : ((List UInt8) × Bool) × HS} (h : f D H k x0 x1 S = some p) : HCall Try.prog base W0 β0 26 [(.ptr x0), (.str x1)] S (fun v S1 => v = (.tup [(.str p.1.1), (.bool p.1.2)]) ∧ S1 = p.2) := by
  unfold f at h
  refine HCall.of_run at_.at_ body ?_
  show HRun Try.prog base W0 β0 26 none [.code c0] ⟨[(.ptr x0), (.str x1), τ, τ, τ, τ, τ, τ, τ, τ, τ, τ, τ, τ, τ, τ, τ, τ, τ, τ, τ, τ, τ, τ], []⟩ S _
  refine q_seq rfl ?_
  refine q_region rfl rfl ?_
  refine qS 4 rfl (ok_assign · (.str _)) ?_
  refine qS 5 rfl (ok_assign · (.bool _)) ?_
  refine hr_region_end ?_
  try dsimp only [w0, w1, w2, w3]
  refine q_seq rfl ?_
  refine q_region rfl rfl ?_
  refine qS 9 rfl (ok_move · (.tmp rfl)) ?_
  refine qS 10 rfl (ok_move · (.tmp rfl)) ?_
  obtain ⟨p1, hp1, h⟩ := bindo h
  refine q_call (dst := some 11) rfl (.func _) (.cons (.tmp rfl) (.cons (.tmp rfl) Evs.nil)) (HInv.static book_Book_int_at.at_ book_Book_int_at.body (book_Book_int_at.snd hD hH hp1)) ?_
  rintro _ _ ⟨rfl, rfl⟩
  refine qS 8 rfl (ok_move · (.tmp rfl)) ?_
  try dsimp only [w0, w1, w2, w3]
  refine qS 12 rfl (ok_extract · (.tmp rfl) rfl) ?_
  refine qS 13 rfl (ok_extract · (.tmp rfl) rfl) ?_
  refine qS 6 rfl (ok_assign · (.tmp rfl)) ?_
  refine qS 7 rfl (ok_assign · (.tmp rfl)) ?_
  refine hr_region_end ?_
  try dsimp only [w0, w1, w2, w3]
  refine q_seq rfl ?_
  refine q_seq rfl ?_
  refine q_region rfl rfl ?_
  refine qS 14 rfl (ok_move · (.tmp rfl)) ?_
  refine qS 15 rfl (ok_not · (.tmp rfl)) ?_
  refine hr_region_end ?_
  try dsimp only [w0, w1, w2, w3]
  rcases ifc h with ⟨hc2, h⟩ | ⟨hc2, h⟩
  · refine q_cond_t rfl (.tmp rfl) hc2 ?_
    refine q_seq rfl ?_
    refine q_region rfl rfl ?_
    refine qS 4 rfl (ok_assign · (.str _)) ?_
    refine qS 5 rfl (ok_assign · (.bool _)) ?_
    refine hr_region_end ?_
    try dsimp only [w0, w1, w2, w3]
    cases h
    exact q_ret rfl at_.at_ rfl (res2 rfl rfl rfl) ⟨rfl, rfl⟩
  · refine q_cond_f rfl (.tmp rfl) (bfalse hc2) ?_
    refine q_skipc rfl ?_
    refine q_seq rfl ?_
    refine q_region rfl rfl ?_
    refine qS 16 rfl (ok_move · (.tmp rfl)) ?_
    obtain ⟨p3, hp3, h⟩ := bindo h
    refine qS 17 rfl (ok_nilCheck_p · (.tmp rfl) hp3) ?_
    refine qS 18 rfl (ok_fieldAddr_s · fi87_1 (by decide) (.tmp rfl) rfl) ?_
    obtain ⟨p4, hp4, h⟩ := bindo h
    refine qS 19 rfl (ok_load_s · sc85 (.tmp rfl) rfl (ldSl_out hp4)) ?_
    try dsimp only [w0, w1, w2, w3]
    refine qS 20 rfl (ok_move · (.tmp rfl)) ?_
    obtain ⟨p5, hp5, h⟩ := bindo h
    refine qS 21 rfl (ok_indexAddr (s := p4) · tu85 sz90 (.tmp rfl) (.tmp rfl) hp5) ?_
    refine qS 22 rfl (ok_fieldAddr_s · fi90_0 (by decide) (.tmp rfl) rfl) ?_
    obtain ⟨p6, hp6, h⟩ := bindo h
    refine qS 23 rfl (ok_load_s · sc9 (.tmp rfl) rfl (ldS_out hp6)) ?_
    try dsimp only [w0, w1, w2, w3]
    refine qS 4 rfl (ok_assign · (.tmp rfl)) ?_
    refine qS 5 rfl (ok_assign · (.bool _)) ?_
    refine hr_region_end ?_
    try dsimp only [w0, w1, w2, w3]
    cases h
    exact q_ret rfl at_.at_ rfl (res2 rfl rfl rfl) ⟨rfl, rfl⟩
end
end book_Book_int_Name
namespace book_Book_int_Len
theorem at_ : FnAt Try.prog 28 Try.f28 := ⟨Try.func28, by kernel_rfl⟩
noncomputable def d0 := (Try.f28.body).getD .skip
noncomputable def r1 := kR (kA d0)
noncomputable def r4 := kR (kA (kA (kB d0)))
noncomputable def r7 := kR (kA (kA (kB (kA (kB d0)))))
noncomputable def r11 := kR (kA (kB (kB d0)))
noncomputable def c0 : Code := .seq (.region 0 r1 false) (.seq (.seq (.region 1 r4 false) (.cond (.tmp 4) (.seq (.region 2 r7 false) .ret) .skip)) (.seq (.region 3 r11 false) .ret))
theorem body : Try.f28.body = some c0 := by kernel_rfl
section
variable {base : Nat} {W0 : World} {β0 : Bt}
def f (x0 : (Option HA)) (S : HS) : Option ((Int) × HS) :=
  (if (Option.isNone x0) = true then
  some (0, S) else
  (Option.bind (x0) fun p2 =>
  (Option.bind (HS.ldSl S (HA.fld p2 1)) fun p3 =>
  some ((Sl.len p3 : Int), S))))
theorem snd {x0 : (Option HA)} {S : HS}  {p : (Int) × HS} (h : f x0 S = some p) : HCall Try.prog base W0 β0 28 [(.ptr x0)] S (fun v S1 => v = (.int .i64 p.1) ∧ S1 = p.2) := by
  unfold f at h
  refine HCall.of_run at_.at_ body ?_
  show HRun Try.prog base W0 β0 28 none [.code c0] ⟨[(.ptr x0), τ, τ, τ, τ, τ, τ, τ, τ, τ], []⟩ S _
  refine q_seq rfl ?_
  refine q_region rfl rfl ?_
  refine qS 2 rfl (ok_assign · (.int _ _)) ?_
  refine hr_region_end ?_
  try dsimp only [w0, w1, w2, w3]
  refine q_seq rfl ?_
  refine q_seq rfl ?_
  refine q_region rfl rfl ?_
  refine qS 3 rfl (ok_move · (.tmp rfl)) ?_
  refine qS 4 rfl (ok_nil_ptr · tu44 (.tmp rfl) (.inl ⟨rfl, rfl⟩)) ?_
  refine hr_region_end ?_
  try dsimp only [w0, w1, w2, w3]
  rcases ifc h with ⟨hc1, h⟩ | ⟨hc1, h⟩
  · refine q_cond_t rfl (.tmp rfl) hc1 ?_
    refine q_seq rfl ?_
    refine q_region rfl rfl ?_
    refine qS 2 rfl (ok_assign · (.int _ _)) ?_
    refine hr_region_end ?_
    try dsimp only [w0, w1, w2, w3]
    cases h
    exact q_ret rfl at_.at_ rfl (res1 rfl rfl) ⟨rfl, rfl⟩
  · refine q_cond_f rfl (.tmp rfl) (bfalse hc1) ?_
    refine q_skipc rfl ?_
    refine q_seq rfl ?_
    refine q_region rfl rfl ?_
    refine qS 5 rfl (ok_move · (.tmp rfl)) ?_
    obtain ⟨p2, hp2, h⟩ := bindo h
    refine qS 6 rfl (ok_nilCheck_p · (.tmp rfl) hp2) ?_
    refine qS 7 rfl (ok_fieldAddr_s · fi87_1 (by decide) (.tmp rfl) rfl) ?_
    obtain ⟨p3, hp3, h⟩ := bindo h
    refine qS 8 rfl (ok_load_s · sc85 (.tmp rfl) rfl (ldSl_out hp3)) ?_
    try dsimp only [w0, w1, w2, w3]
    refine qS 9 rfl (ok_len_sl (q := Sl.a p3) (n := Sl.len p3) (z := Sl.cap p3) · rfl tu85 (.tmp rfl)) ?_
    refine qS 2 rfl (ok_assign · (.tmp rfl)) ?_
    refine hr_region_end ?_
    try dsimp only [w0, w1, w2, w3]
    cases h
    exact q_ret rfl at_.at_ rfl (res1 rfl rfl) ⟨rfl, rfl⟩
end
end book_Book_int_Len
namespace rollcalllaw02_awake
theorem at_ : FnAt Try.prog 7 Try.f7 := ⟨Try.func7, by kernel_rfl⟩
noncomputable def d0 := (Try.f7.body).getD .skip
noncomputable def r1 := kR (kA d0)
noncomputable def r3 := kR (kA (kB d0))
noncomputable def r6 := kR (kA (kA (kB (kB d0))))
noncomputable def r9 := kR (kA (kA (kB (kA (kB (kB d0))))))
noncomputable def r13 := kR (kA (kB (kB (kB d0))))
noncomputable def r15 := kR (kA (kB (kB (kB (kB d0)))))
noncomputable def c16 : Code := .ret
noncomputable def c12 : Code := .seq (.region 4 r13 false) (.seq (.region 5 r15 false) c16)
noncomputable def c7 : Code := .cond (.tmp 20) (.seq (.region 3 r9 false) .ret) .skip
noncomputable def c0 : Code := .seq (.region 0 r1 false) (.seq (.region 1 r3 false) (.seq (.seq (.region 2 r6 false) c7) c12))
theorem body : Try.f7.body = some c0 := by kernel_rfl
section
variable {base : Nat} {W0 : World} {β0 : Bt}
def J3 (D : Dp) (H : Hd) (k : Nat) (y35 : Bool) (S : HS) : Option ((Bool) × HS) :=
  some (y35, S)
theorem J3_snd {D : Dp} {H : Hd} {k : Nat} (hD : DSound Try.prog base W0 D) (hH : HSound Try.prog base W0 β0 H)  {y35 : Bool} {S : HS} {p : (Bool) × HS} {g0 g1 g2 g3 g4 g5 g6 g7 g8 g9 g10 g11 g12 g13 g14 g15 g16 g17 g18 g19 g20 g21 g22 g23 g24 g25 g26 g27 g28 g29 g30 g31 g32 g33 g34 : HV} (h : J3 D H k y35 S = some p) : HRun Try.prog base W0 β0 7 none [.inRegion r15 [10], .code c16] ⟨[g0, g1, g2, g3, g4, g5, g6, g7, g8, g9, g10, g11, g12, g13, g14, g15, g16, g17, g18, g19, g20, g21, g22, g23, g24, g25, g26, g27, g28, g29, g30, g31, g32, g33, g34, (.bool y35)], []⟩ S (fun v S1 => v = (.bool p.1) ∧ S1 = p.2) := by
  unfold J3 at h
  refine qS 0 rfl (ok_assign · (.tmp rfl)) ?_
  refine hr_region_end ?_
  try dsimp only [w0, w1, w2, w3]
  cases h
  exact q_ret rfl at_.at_ rfl (res1 rfl rfl) ⟨rfl, rfl⟩
def J2 (D : Dp) (H : Hd) (k : Nat) (y1 : (Option HA)) (y30 : Bool) (S : HS) : Option ((Bool) × HS) :=
  (if y30 = true then
  (Option.bind (book_Book_int_Len.f y1 S) fun p8 =>
  J3 D H k (decide (p8.1 = 1)) p8.2) else
  J3 D H k false S)
theorem J2_snd {D : Dp} {H : Hd} {k : Nat} (hD : DSound Try.prog base W0 D) (hH : HSound Try.prog base W0 β0 H)  {y1 : (Option HA)} {y30 : Bool} {S : HS} {p : (Bool) × HS} {g0 g2 g3 g4 g5 g6 g7 g8 g9 g10 g11 g12 g13 g14 g15 g16 g17 g18 g19 g20 g21 g22 g23 g24 g25 g26 g27 g28 g29 g31 g32 g33 g34 g35 : HV} (h : J2 D H k y1 y30 S = some p) : HRun Try.prog base W0 β0 7 none [.inRegion r15 [5, 6, 7, 8, 9, 10], .code c16] ⟨[g0, (.ptr y1), g2, g3, g4, g5, g6, g7, g8, g9, g10, g11, g12, g13, g14, g15, g16, g17, g18, g19, g20, g21, g22, g23, g24, g25, g26, g27, g28, g29, (.bool y30), g31, g32, g33, g34, g35], []⟩ S (fun v S1 => v = (.bool p.1) ∧ S1 = p.2) := by
  unfold J2 at h
  refine qS 31 rfl (ok_move · (.tmp rfl)) ?_
  rcases ifc h with ⟨hc7, h⟩ | ⟨hc7, h⟩
  · refine qG 31 32 rfl hc7 (ok_move · (.tmp rfl)) ?_
    obtain ⟨p8, hp8, h⟩ := bindo h
    refine q_call_g (t := 31) (dst := some 33) rfl rfl rfl hc7 (.func _) (.cons (.tmp rfl) Evs.nil) (HInv.static book_Book_int_Len.at_ book_Book_int_Len.body (book_Book_int_Len.snd  hp8)) ?_
    rintro _ _ ⟨rfl, rfl⟩
    try dsimp only [w0, w1, w2, w3]
    refine qG 31 34 rfl hc7 (ok_ibin · (.tmp rfl) (.int _ _) rfl) ?_
    refine qS 35 rfl (ok_pick_tt · (.tmp rfl) hc7 (.tmp rfl)) ?_
    try dsimp only [w0, w1, w2, w3]
    exact J3_snd hD hH h
  · refine q_skip (dst := some 32) (t := 31) rfl rfl rfl (bfalse hc7) ?_
    refine q_skip (dst := some 33) (t := 31) rfl rfl rfl (bfalse hc7) ?_
    try dsimp only [w0, w1, w2, w3]
    refine q_skip (dst := some 34) (t := 31) rfl rfl rfl (bfalse hc7) ?_
    refine qS 35 rfl (ok_pick_ff · (.tmp rfl) (bfalse hc7) (.bool _)) ?_
    try dsimp only [w0, w1, w2, w3]
    exact J3_snd hD hH h
def J1 (D : Dp) (H : Hd) (k : Nat) (y1 : (Option HA)) (y20 : Bool) (S : HS) : Option ((Bool) × HS) :=
  (if y20 = true then
  some (false, S) else
  (Option.bind (book_Book_int_Name.f D H k y1 ([78, 73, 67, 75, 91] : List UInt8) S) fun p5 =>
  (if p5.1.2 = true then
  J2 D H k y1 (decide (p5.1.1 = ([110, 73, 67, 75, 123] : List UInt8))) p5.2 else
  J2 D H k y1 false p5.2)))
theorem J1_snd {D : Dp} {H : Hd} {k : Nat} (hD : DSound Try.prog base W0 D) (hH : HSound Try.prog base W0 β0 H)  {y1 : (Option HA)} {y20 : Bool} {S : HS} {p : (Bool) × HS} {g0 g2 g3 g4 g5 g6 g7 g8 g9 g10 g11 g12 g13 g14 g15 g16 g17 g18 g19 g21 g22 g23 g24 g25 g26 g27 g28 g29 g30 g31 g32 g33 g34 g35 : HV} (h : J1 D H k y1 y20 S = some p) : HRun Try.prog base W0 β0 7 none [.code c7, .code c12] ⟨[g0, (.ptr y1), g2, g3, g4, g5, g6, g7, g8, g9, g10, g11, g12, g13, g14, g15, g16, g17, g18, g19, (.bool y20), g21, g22, g23, g24, g25, g26, g27, g28, g29, g30, g31, g32, g33, g34, g35], []⟩ S (fun v S1 => v = (.bool p.1) ∧ S1 = p.2) := by
  unfold J1 at h
  rcases ifc h with ⟨hc4, h⟩ | ⟨hc4, h⟩
  · refine q_cond_t rfl (.tmp rfl) hc4 ?_
    refine q_seq rfl ?_
    refine q_region rfl rfl ?_
    refine qS 0 rfl (ok_assign · (.bool _)) ?_
    refine hr_region_end ?_
    try dsimp only [w0, w1, w2, w3]
    cases h
    exact q_ret rfl at_.at_ rfl (res1 rfl rfl) ⟨rfl, rfl⟩
  · refine q_cond_f rfl (.tmp rfl) (bfalse hc4) ?_
    refine q_skipc rfl ?_
    refine q_seq rfl ?_
    refine q_region rfl rfl ?_
    refine qS 22 rfl (ok_move · (.tmp rfl)) ?_
    obtain ⟨p5, hp5, h⟩ := bindo h
    refine q_call (dst := some 23) rfl (.func _) (.cons (.tmp rfl) (.cons (.str _) Evs.nil)) (HInv.static book_Book_int_Name.at_ book_Book_int_Name.body (book_Book_int_Name.snd hD hH hp5)) ?_
    rintro _ _ ⟨rfl, rfl⟩
    refine qS 21 rfl (ok_move · (.tmp rfl)) ?_
    refine qS 24 rfl (ok_extract · (.tmp rfl) rfl) ?_
    try dsimp only [w0, w1, w2, w3]
    refine qS 25 rfl (ok_extract · (.tmp rfl) rfl) ?_
    refine qS 3 rfl (ok_assign · (.tmp rfl)) ?_
    refine qS 4 rfl (ok_assign · (.tmp rfl)) ?_
    refine hr_region_end ?_
    try dsimp only [w0, w1, w2, w3]
    refine q_seq rfl ?_
    refine q_region rfl rfl ?_
    refine qS 26 rfl (ok_move · (.tmp rfl)) ?_
    refine qS 27 rfl (ok_move · (.tmp rfl)) ?_
    rcases ifc h with ⟨hc6, h⟩ | ⟨hc6, h⟩
    · refine qG 27 28 rfl hc6 (ok_move · (.tmp rfl)) ?_
      refine qG 27 29 rfl hc6 (ok_sbin · (.tmp rfl) (.str _) rfl) ?_
      try dsimp only [w0, w1, w2, w3]
      refine qS 30 rfl (ok_pick_tt · (.tmp rfl) hc6 (.tmp rfl)) ?_
      try dsimp only [w0, w1, w2, w3]
      exact J2_snd hD hH h
    · refine q_skip (dst := some 28) (t := 27) rfl rfl rfl (bfalse hc6) ?_
      refine q_skip (dst := some 29) (t := 27) rfl rfl rfl (bfalse hc6) ?_
      try dsimp only [w0, w1, w2, w3]
      refine qS 30 rfl (ok_pick_ff · (.tmp rfl) (bfalse hc6) (.bool _)) ?_
      try dsimp only [w0, w1, w2, w3]
      exact J2_snd hD hH h
def J0 (D : Dp) (H : Hd) (k : Nat) (y1 : (Option HA)) (y15 : Bool) (S : HS) : Option ((Bool) × HS) :=
  (if y15 = true then
  J1 D H k y1 true S else
  (Option.bind (book_Book_int_Put.f D H k y1 ([110, 73, 67, 75, 123] : List UInt8) 2 S) fun p9 =>
  J1 D H k y1 (!decide (p9.1 = 0)) p9.2))
theorem J0_snd {D : Dp} {H : Hd} {k : Nat} (hD : DSound Try.prog base W0 D) (hH : HSound Try.prog base W0 β0 H)  {y1 : (Option HA)} {y15 : Bool} {S : HS} {p : (Bool) × HS} {g0 g2 g3 g4 g5 g6 g7 g8 g9 g10 g11 g12 g13 g14 g16 g17 g18 g19 g20 g21 g22 g23 g24 g25 g26 g27 g28 g29 g30 g31 g32 g33 g34 g35 : HV} (h : J0 D H k y1 y15 S = some p) : HRun Try.prog base W0 β0 7 none [.inRegion r6 [7, 8, 9, 10, 11], .code c7, .code c12] ⟨[g0, (.ptr y1), g2, g3, g4, g5, g6, g7, g8, g9, g10, g11, g12, g13, g14, (.bool y15), g16, g17, g18, g19, g20, g21, g22, g23, g24, g25, g26, g27, g28, g29, g30, g31, g32, g33, g34, g35], []⟩ S (fun v S1 => v = (.bool p.1) ∧ S1 = p.2) := by
  unfold J0 at h
  refine qS 16 rfl (ok_move · (.tmp rfl)) ?_
  try dsimp only [w0, w1, w2, w3]
  rcases ifc h with ⟨hc3, h⟩ | ⟨hc3, h⟩
  · refine q_skip (dst := some 17) (t := 16) rfl rfl rfl hc3 ?_
    refine q_skip (dst := some 18) (t := 16) rfl rfl rfl hc3 ?_
    refine q_skip (dst := some 19) (t := 16) rfl rfl rfl hc3 ?_
    refine qS 20 rfl (ok_pick_tt · (.tmp rfl) hc3 (.bool _)) ?_
    refine hr_region_end ?_
    try dsimp only [w0, w1, w2, w3]
    try dsimp only [w0, w1, w2, w3]
    exact J1_snd hD hH h
  · refine qG 16 17 rfl (bfalse hc3) (ok_move · (.tmp rfl)) ?_
    obtain ⟨p9, hp9, h⟩ := bindo h
    refine q_call_g (t := 16) (dst := some 18) rfl rfl rfl (bfalse hc3) (.func _) (.cons (.tmp rfl) (.cons (.str _) (.cons (.int _ _) Evs.nil))) (HInv.static book_Book_int_Put.at_ book_Book_int_Put.body (book_Book_int_Put.snd hD hH hp9)) ?_
    rintro _ _ ⟨rfl, rfl⟩
    refine qG 16 19 rfl (bfalse hc3) (ok_ibin · (.tmp rfl) (.int _ _) rfl) ?_
    refine qS 20 rfl (ok_pick_ff · (.tmp rfl) (bfalse hc3) (.tmp rfl)) ?_
    refine hr_region_end ?_
    try dsimp only [w0, w1, w2, w3]
    try dsimp only [w0, w1, w2, w3]
    exact J1_snd hD hH h
def f (D : Dp) (H : Hd) (k : Nat) (S : HS) : Option ((Bool) × HS) :=
  (Option.bind (book_New_int.f 2 S) fun p1 =>
  (if (!decide (p1.1.2 = 0)) = true then
  J0 D H k p1.1.1 true p1.2 else
  (Option.bind (book_Book_int_Put.f D H k p1.1.1 ([78, 105, 99, 107, 91] : List UInt8) 1 p1.2) fun p10 =>
  J0 D H k p1.1.1 (!decide (p10.1 = 0)) p10.2)))
theorem snd {D : Dp} {H : Hd} {k : Nat} {S : HS} (hD : DSound Try.prog base W0 D) (hH : HSound Try.prog base W0 β0 H)  {p : (Bool) × HS} (h : f D H k S = some p) : HCall Try.prog base W0 β0 7 [] S (fun v S1 => v = (.bool p.1) ∧ S1 = p.2) := by
  unfold f at h
  refine HCall.of_run at_.at_ body ?_
  show HRun Try.prog base W0 β0 7 none [.code c0] ⟨[τ, τ, τ, τ, τ, τ, τ, τ, τ, τ, τ, τ, τ, τ, τ, τ, τ, τ, τ, τ, τ, τ, τ, τ, τ, τ, τ, τ, τ, τ, τ, τ, τ, τ, τ, τ], []⟩ S _
  refine q_seq rfl ?_
  refine q_region rfl rfl ?_
  refine qS 0 rfl (ok_assign · (.bool _)) ?_
  refine hr_region_end ?_
  try dsimp only [w0, w1, w2, w3]
  refine q_seq rfl ?_
  refine q_region rfl rfl ?_
  obtain ⟨p1, hp1, h⟩ := bindo h
  refine q_call (dst := some 6) rfl (.func _) (.cons (.int _ _) Evs.nil) (HInv.static book_New_int.at_ book_New_int.body (book_New_int.snd  hp1)) ?_
  rintro _ _ ⟨rfl, rfl⟩
  refine qS 5 rfl (ok_move · (.tmp rfl)) ?_
  refine qS 7 rfl (ok_extract · (.tmp rfl) rfl) ?_
  refine qS 8 rfl (ok_extract · (.tmp rfl) rfl) ?_
  try dsimp only [w0, w1, w2, w3]
  refine qS 1 rfl (ok_assign · (.tmp rfl)) ?_
  refine qS 2 rfl (ok_assign · (.tmp rfl)) ?_
  refine hr_region_end ?_
  try dsimp only [w0, w1, w2, w3]
  refine q_seq rfl ?_
  refine q_seq rfl ?_
  refine q_region rfl rfl ?_
  refine qS 9 rfl (ok_move · (.tmp rfl)) ?_
  refine qS 10 rfl (ok_ibin · (.tmp rfl) (.int _ _) rfl) ?_
  refine qS 11 rfl (ok_move · (.tmp rfl)) ?_
  rcases ifc h with ⟨hc2, h⟩ | ⟨hc2, h⟩
  · refine q_skip (dst := some 12) (t := 11) rfl rfl rfl hc2 ?_
    try dsimp only [w0, w1, w2, w3]
    refine q_skip (dst := some 13) (t := 11) rfl rfl rfl hc2 ?_
    refine q_skip (dst := some 14) (t := 11) rfl rfl rfl hc2 ?_
    refine qS 15 rfl (ok_pick_tt · (.tmp rfl) hc2 (.bool _)) ?_
    try dsimp only [w0, w1, w2, w3]
    exact J0_snd hD hH h
  · refine qG 11 12 rfl (bfalse hc2) (ok_move · (.tmp rfl)) ?_
    try dsimp only [w0, w1, w2, w3]
    obtain ⟨p10, hp10, h⟩ := bindo h
    refine q_call_g (t := 11) (dst := some 13) rfl rfl rfl (bfalse hc2) (.func _) (.cons (.tmp rfl) (.cons (.str _) (.cons (.int _ _) Evs.nil))) (HInv.static book_Book_int_Put.at_ book_Book_int_Put.body (book_Book_int_Put.snd hD hH hp10)) ?_
    rintro _ _ ⟨rfl, rfl⟩
    refine qG 11 14 rfl (bfalse hc2) (ok_ibin · (.tmp rfl) (.int _ _) rfl) ?_
    refine qS 15 rfl (ok_pick_ff · (.tmp rfl) (bfalse hc2) (.tmp rfl)) ?_
    try dsimp only [w0, w1, w2, w3]
    exact J0_snd hD hH h
end
end rollcalllaw02_awake
namespace book_New_bool
theorem at_ : FnAt Try.prog 8 Try.f8 := ⟨Try.func8, by kernel_rfl⟩
noncomputable def d0 := (Try.f8.body).getD .skip
noncomputable def r1 := kR (kA d0)
noncomputable def r4 := kR (kA (kA (kB d0)))
noncomputable def r7 := kR (kA (kA (kB (kA (kB d0)))))
noncomputable def r11 := kR (kA (kB (kB d0)))
noncomputable def c10 : Code := .seq (.region 3 r11 false) .ret
noncomputable def c5 : Code := .cond (.tmp 9) (.seq (.region 2 r7 false) .ret) .skip
noncomputable def c0 : Code := .seq (.region 0 r1 false) (.seq (.seq (.region 1 r4 false) c5) c10)
theorem body : Try.f8.body = some c0 := by kernel_rfl
section
variable {base : Nat} {W0 : World} {β0 : Bt}
def J0  (y0 : Int) (y9 : Bool) (S : HS) : Option (((Option HA) × Int) × HS) :=
  (if y9 = true then
  some ((none, 2), S) else
  (letv (HS.new S (.cells 2 [[(.int .i64 y0), (Sl.hv Sl.nil)]] true)) fun p3 =>
  some (((some (HA.cell0 S.next)), 0), p3)))
theorem J0_snd   {y0 : Int} {y9 : Bool} {S : HS} {p : ((Option HA) × Int) × HS} {g1 g2 g3 g4 g5 g6 g7 g8 g10 g11 g12 : HV} (h : J0  y0 y9 S = some p) : HRun Try.prog base W0 β0 8 none [.code c5, .code c10] ⟨[(.int .i64 y0), g1, g2, g3, g4, g5, g6, g7, g8, (.bool y9), g10, g11, g12], []⟩ S (fun v S1 => v = (.tup [(.ptr p.1.1), (.int .i64 p.1.2)]) ∧ S1 = p.2) := by
  unfold J0 at h
  rcases ifc h with ⟨hc2, h⟩ | ⟨hc2, h⟩
  · refine q_cond_t rfl (.tmp rfl) hc2 ?_
    refine q_seq rfl ?_
    refine q_region rfl rfl ?_
    refine qS 2 rfl (ok_assign · (.const fun _ => .ptrNil)) ?_
    refine qS 3 rfl (ok_assign · (.int _ _)) ?_
    refine hr_region_end ?_
    try dsimp only [w0, w1, w2, w3]
    cases h
    exact q_ret rfl at_.at_ rfl (res2 rfl rfl rfl) ⟨rfl, rfl⟩
  · refine q_cond_f rfl (.tmp rfl) (bfalse hc2) ?_
    refine q_skipc rfl ?_
    refine q_seq rfl ?_
    refine q_region rfl rfl ?_
    refine qS 10 rfl (ok_move · (.tmp rfl)) ?_
    refine qS 11 rfl (ok_build (is := [0]) (xs := [(.tmp 10)]) (r := [(.int .i64 y0), (Sl.hv Sl.nil)]) st68 · rfl rfl (.cons (.tmp rfl) Evs.nil) rfl) ?_
    obtain ⟨p3, hp3, h⟩ := leto h
    refine qS 12 rfl (ok_box_e · (.tmp rfl) (Nat.zero_lt_succ _) rfl hp3) ?_
    refine qS 2 rfl (ok_assign · (.tmp rfl)) ?_
    try dsimp only [w0, w1, w2, w3]
    refine qS 3 rfl (ok_assign · (.int _ _)) ?_
    refine hr_region_end ?_
    try dsimp only [w0, w1, w2, w3]
    cases h
    exact q_ret rfl at_.at_ rfl (res2 rfl rfl rfl) ⟨rfl, rfl⟩
def f (x0 : Int) (S : HS) : Option (((Option HA) × Int) × HS) :=
  (if x0 < 0 then
  J0 x0 true S else
  J0 x0 (decide (x0 > 100000)) S)
theorem snd {x0 : Int} {S : HS}  {p : ((Option HA) × Int) × HS} (h : f x0 S = some p) : HCall Try.prog base W0 β0 8 [(.int .i64 x0)] S (fun v S1 => v = (.tup [(.ptr p.1.1), (.int .i64 p.1.2)]) ∧ S1 = p.2) := by
  unfold f at h
  refine HCall.of_run at_.at_ body ?_
  show HRun Try.prog base W0 β0 8 none [.code c0] ⟨[(.int .i64 x0), τ, τ, τ, τ, τ, τ, τ, τ, τ, τ, τ, τ], []⟩ S _
  refine q_seq rfl ?_
  refine q_region rfl rfl ?_
  refine qS 2 rfl (ok_assign · (.const fun _ => .ptrNil)) ?_
  refine qS 3 rfl (ok_assign · (.int _ _)) ?_
  refine hr_region_end ?_
  try dsimp only [w0, w1, w2, w3]
  refine q_seq rfl ?_
  refine q_seq rfl ?_
  refine q_region rfl rfl ?_
  refine qS 4 rfl (ok_move · (.tmp rfl)) ?_
  refine qS 5 rfl (ok_ibin · (.tmp rfl) (.int _ _) rfl) ?_
  refine qS 6 rfl (ok_move · (.tmp rfl)) ?_
  rcases ifc h with ⟨hc1, h⟩ | ⟨hc1, h⟩
  · refine q_skip (dst := some 7) (t := 6) rfl rfl rfl (decide_eq_true hc1) ?_
    try dsimp only [w0, w1, w2, w3]
    refine q_skip (dst := some 8) (t := 6) rfl rfl rfl (decide_eq_true hc1) ?_
    refine qS 9 rfl (ok_pick_tt · (.tmp rfl) (decide_eq_true hc1) (.bool _)) ?_
    refine hr_region_end ?_
    try dsimp only [w0, w1, w2, w3]
    try dsimp only [w0, w1, w2, w3]
    exact J0_snd  h
  · refine qG 6 7 rfl (decide_eq_false hc1) (ok_move · (.tmp rfl)) ?_
    try dsimp only [w0, w1, w2, w3]
    refine qG 6 8 rfl (decide_eq_false hc1) (ok_ibin · (.tmp rfl) (.int _ _) rfl) ?_
    refine qS 9 rfl (ok_pick_ff · (.tmp rfl) (decide_eq_false hc1) (.tmp rfl)) ?_
    refine hr_region_end ?_
    try dsimp only [w0, w1, w2, w3]
    try dsimp only [w0, w1, w2, w3]
    exact J0_snd  h
end
end book_New_bool
namespace slices_BinarySearchFunc_book_entry_bool_book_entry_bool_string
theorem at_ : FnAt Try.prog 47 Try.f47 := ⟨Try.func47, by kernel_rfl⟩
noncomputable def d0 := (Try.f47.body).getD .skip
noncomputable def r1 := kR (kA d0)
noncomputable def r3 := kR (kA (kB d0))
noncomputable def r5 := kR (kA (kB (kB d0)))
noncomputable def d6 := kB (kB (kB d0))
noncomputable def d9 := kA (kA (kA d6))
noncomputable def r11 := kR (kA (kA d9))
noncomputable def r17 := kR (kA (kA (kB d9)))
noncomputable def r19 := kR (kA (kB (kA (kB d9))))
noncomputable def r21 := kR (kA (kB (kB (kA (kB d9)))))
noncomputable def r22 := kR (kB (kB (kB (kA (kB d9)))))
noncomputable def r24 := kR (kA (kB d6))
noncomputable def c25 : Code := .ret
noncomputable def c23 : Code := .seq (.region 8 r24 false) c25
noncomputable def c9 : Code := .seq (.seq (.region 3 r11 false) (.cond (.tmp 17) .skip (.exit 0))) (.block 1 (.seq (.region 4 r17 false) (.seq (.region 5 r19 false) (.cond (.tmp 31) (.region 6 r21 false) (.region 7 r22 false)))))
noncomputable def c0 : Code := .seq (.region 0 r1 false) (.seq (.region 1 r3 false) (.seq (.region 2 r5 false) (.seq (.block 0 (.loop c9)) c23)))
theorem body : Try.f47.body = some c0 := by kernel_rfl
section
variable {base : Nat} {W0 : World} {β0 : Bt}
def J1 (D : Dp) (H : Hd) (k : Nat) (y35 : Int) (y48 : Bool) (S : HS) : Option ((Int × Bool) × HS) :=
  some ((y35, y48), S)
theorem J1_snd {D : Dp} {H : Hd} {k : Nat} (hD : DSound Try.prog base W0 D) (hH : HSound Try.prog base W0 β0 H)  {y35 : Int} {y48 : Bool} {S : HS} {p : (Int × Bool) × HS} {g0 g1 g2 g3 g4 g5 g6 g7 g8 g9 g10 g11 g12 g13 g14 g15 g16 g17 g18 g19 g20 g21 g22 g23 g24 g25 g26 g27 g28 g29 g30 g31 g32 g33 g34 g36 g37 g38 g39 g40 g41 g42 g43 g44 g45 g46 g47 : HV} (h : J1 D H k y35 y48 S = some p) : HRun Try.prog base W0 β0 47 none [.inRegion r24 [14, 15], .code c25] ⟨[g0, g1, g2, g3, g4, g5, g6, g7, g8, g9, g10, g11, g12, g13, g14, g15, g16, g17, g18, g19, g20, g21, g22, g23, g24, g25, g26, g27, g28, g29, g30, g31, g32, g33, g34, (.int .i64 y35), g36, g37, g38, g39, g40, g41, g42, g43, g44, g45, g46, g47, (.bool y48)], []⟩ S (fun v S1 => v = (.tup [(.int .i64 p.1.1), (.bool p.1.2)]) ∧ S1 = p.2) := by
  unfold J1 at h
  refine qS 6 rfl (ok_assign · (.tmp rfl)) ?_
  refine qS 7 rfl (ok_assign · (.tmp rfl)) ?_
  refine hr_region_end ?_
  try dsimp only [w0, w1, w2, w3]
  cases h
  exact q_ret rfl at_.at_ rfl (res2 rfl rfl rfl) ⟨rfl, rfl⟩
def L0 (D : Dp) (H : Hd) (k : Nat) : Nat → Sl → (List UInt8) → HV → Int → Int → Int → HS → Option ((Int × Bool) × HS)
  | 0, _, _, _, _, _, _, _ => none
  | n + 1, y0, y1, y2, y8, y9, y10, S =>
    (if y9 < y10 then
    (Option.bind (HS.idx S y0 (w64 (Int.fdiv (IntKind.wrap .u64 (w64 (y9 + y10))) (2 ^ (min (Int.toNat 1) (IntKind.bits .u64))))) 2) fun p2 =>
    (Option.bind (HS.ldS S (HA.fld p2 0)) fun p3 =>
    (Option.bind (HS.ldB S (HA.fld p2 1)) fun p4 =>
    (Option.bind (D H y2 [(.agg [(.str p3), (.bool p4)]), (.str y1)] S) fun p5 =>
    (Option.bind (dI .i64 p5.1) fun p6 =>
    (if p6 < 0 then
    (L0 D H k n) y0 y1 y2 y8 (w64 ((w64 (Int.fdiv (IntKind.wrap .u64 (w64 (y9 + y10))) (2 ^ (min (Int.toNat 1) (IntKind.bits .u64))))) + 1)) y10 p5.2 else
    (L0 D H k n) y0 y1 y2 y8 y9 (w64 (Int.fdiv (IntKind.wrap .u64 (w64 (y9 + y10))) (2 ^ (min (Int.toNat 1) (IntKind.bits .u64))))) p5.2)))))) else
    (if y9 < y8 then
    (Option.bind (HS.idx S y0 y9 2) fun p9 =>
    (Option.bind (HS.ldS S (HA.fld p9 0)) fun p10 =>
    (Option.bind (HS.ldB S (HA.fld p9 1)) fun p11 =>
    (Option.bind (D H y2 [(.agg [(.str p10), (.bool p11)]), (.str y1)] S) fun p12 =>
    (Option.bind (dI .i64 p12.1) fun p13 =>
    J1 D H k y9 (decide (p13 = 0)) p12.2))))) else
    J1 D H k y9 false S))
theorem L0_snd {D : Dp} {H : Hd} {k : Nat} (hD : DSound Try.prog base W0 D) (hH : HSound Try.prog base W0 β0 H)  : ∀ {n : Nat} ⦃y0 : Sl⦄ ⦃y1 : (List UInt8)⦄ ⦃y2 : HV⦄ ⦃y8 : Int⦄ ⦃y9 : Int⦄ ⦃y10 : Int⦄ ⦃S : HS⦄ ⦃p : (Int × Bool) × HS⦄ ⦃g3 g4 g5 g6 g7 g11 g12 g13 g14 g15 g16 g17 g18 g19 g20 g21 g22 g23 g24 g25 g26 g27 g28 g29 g30 g31 g32 g33 g34 g35 g36 g37 g38 g39 g40 g41 g42 g43 g44 g45 g46 g47 g48 : HV⦄, L0 D H k n y0 y1 y2 y8 y9 y10 S = some p → HRun Try.prog base W0 β0 47 none [.inLoop c9, .inBlock 0, .code c23] ⟨[(Sl.hv y0), (.str y1), y2, g3, g4, g5, g6, g7, (.int .i64 y8), (.int .i64 y9), (.int .i64 y10), g11, g12, g13, g14, g15, g16, g17, g18, g19, g20, g21, g22, g23, g24, g25, g26, g27, g28, g29, g30, g31, g32, g33, g34, g35, g36, g37, g38, g39, g40, g41, g42, g43, g44, g45, g46, g47, g48], []⟩ S (fun v S1 => v = (.tup [(.int .i64 p.1.1), (.bool p.1.2)]) ∧ S1 = p.2) := by
  intro n
  induction n with
  | zero => intro _ _ _ _ _ _ _ _ _ _ _ _ _ _ _ _ _ _ _ _ _ _ _ _ _ _ _ _ _ _ _ _ _ _ _ _ _ _ _ _ _ _ _ _ _ _ _ _ _ _ _ h; cases h
  | succ n ih =>
    intro y0 y1 y2 y8 y9 y10 S p g3 g4 g5 g6 g7 g11 g12 g13 g14 g15 g16 g17 g18 g19 g20 g21 g22 g23 g24 g25 g26 g27 g28 g29 g30 g31 g32 g33 g34 g35 g36 g37 g38 g39 g40 g41 g42 g43 g44 g45 g46 g47 g48 h
    simp only [L0] at h
    refine hr_inLoop ?_
    refine q_seq rfl ?_
    refine q_seq rfl ?_
    refine q_region rfl rfl ?_
    refine qS 15 rfl (ok_move · (.tmp rfl)) ?_
    refine qS 16 rfl (ok_move · (.tmp rfl)) ?_
    refine qS 17 rfl (ok_ibin · (.tmp rfl) (.tmp rfl) rfl) ?_
    refine hr_region_end ?_
    try dsimp only [w0, w1, w2, w3]
    rcases ifc h with ⟨hc1, h⟩ | ⟨hc1, h⟩
    · refine q_cond_t rfl (.tmp rfl) (decide_eq_true hc1) ?_
      refine q_skipc rfl ?_
      refine q_block rfl ?_
      refine q_seq rfl ?_
      refine q_region rfl rfl ?_
      refine qS 18 rfl (ok_move · (.tmp rfl)) ?_
      refine qS 19 rfl (ok_move · (.tmp rfl)) ?_
      refine qS 20 rfl (ok_ibin · (.tmp rfl) (.tmp rfl) rfl) ?_
      refine qS 21 rfl (ok_conv_int · tu3 tu111 (.tmp rfl)) ?_
      try dsimp only [w0, w1, w2, w3]
      refine qS 22 rfl (ok_shr · (.tmp rfl) (.int _ _) (by decide)) ?_
      refine qS 23 rfl (ok_conv_int · tu111 tu3 (.tmp rfl)) ?_
      refine qS 11 rfl (ok_assign · (.tmp rfl)) ?_
      refine hr_region_end ?_
      try dsimp only [w0, w1, w2, w3]
      refine q_seq rfl ?_
      refine q_region rfl rfl ?_
      refine qS 24 rfl (ok_move · (.tmp rfl)) ?_
      refine qS 25 rfl (ok_move · (.tmp rfl)) ?_
      refine qS 26 rfl (ok_move · (.tmp rfl)) ?_
      obtain ⟨p2, hp2, h⟩ := bindo h
      refine qS 27 rfl (ok_indexAddr (s := y0) · tu66 sz70 (.tmp rfl) (.tmp rfl) hp2) ?_
      try dsimp only [w0, w1, w2, w3]
      obtain ⟨p3, hp3, h⟩ := bindo h
      obtain ⟨p4, hp4, h⟩ := bindo h
      refine qS 28 rfl (ok_load_a (vs := [(.str p3), (.bool p4)]) · ia70 (.tmp rfl) rfl ⟨ldS_out hp3, ldB_out hp4, trivial⟩ (by simp)) ?_
      refine qS 29 rfl (ok_move · (.tmp rfl)) ?_
      obtain ⟨p5, hp5, h⟩ := bindo h
      obtain ⟨p6, hp6, h⟩ := bindo h
      refine q_call (dst := some 30) rfl (.tmp rfl) (.cons (.tmp rfl) (.cons (.tmp rfl) Evs.nil)) (hD _ _ hH _ _ _ _ _ hp5) ?_
      rintro _ _ ⟨rfl, rfl⟩
      rw [dI_out hp6]
      refine qS 31 rfl (ok_ibin · (.tmp rfl) (.int _ _) rfl) ?_
      refine hr_region_end ?_
      try dsimp only [w0, w1, w2, w3]
      rcases ifc h with ⟨hc7, h⟩ | ⟨hc7, h⟩
      · refine q_cond_t rfl (.tmp rfl) (decide_eq_true hc7) ?_
        refine q_region rfl rfl ?_
        refine qS 32 rfl (ok_move · (.tmp rfl)) ?_
        refine qS 33 rfl (ok_ibin · (.tmp rfl) (.int _ _) rfl) ?_
        refine qS 9 rfl (ok_assign · (.tmp rfl)) ?_
        refine hr_region_end ?_
        try dsimp only [w0, w1, w2, w3]
        refine hr_inBlock ?_
        try dsimp only [w0, w1, w2, w3]
        exact ih h
      · refine q_cond_f rfl (.tmp rfl) (decide_eq_false hc7) ?_
        refine q_region rfl rfl ?_
        refine qS 34 rfl (ok_move · (.tmp rfl)) ?_
        refine qS 10 rfl (ok_assign · (.tmp rfl)) ?_
        refine hr_region_end ?_
        try dsimp only [w0, w1, w2, w3]
        refine hr_inBlock ?_
        try dsimp only [w0, w1, w2, w3]
        exact ih h
    · refine q_cond_f rfl (.tmp rfl) (decide_eq_false hc1) ?_
      refine q_exit rfl rfl ?_
      refine q_seq rfl ?_
      refine q_region rfl rfl ?_
      refine qS 35 rfl (ok_move · (.tmp rfl)) ?_
      refine qS 36 rfl (ok_move · (.tmp rfl)) ?_
      refine qS 37 rfl (ok_move · (.tmp rfl)) ?_
      refine qS 38 rfl (ok_ibin · (.tmp rfl) (.tmp rfl) rfl) ?_
      try dsimp only [w0, w1, w2, w3]
      refine qS 39 rfl (ok_move · (.tmp rfl)) ?_
      rcases ifc h with ⟨hc8, h⟩ | ⟨hc8, h⟩
      · refine qG 39 40 rfl (decide_eq_true hc8) (ok_move · (.tmp rfl)) ?_
        refine qG 39 41 rfl (decide_eq_true hc8) (ok_move · (.tmp rfl)) ?_
        refine qG 39 42 rfl (decide_eq_true hc8) (ok_move · (.tmp rfl)) ?_
        try dsimp only [w0, w1, w2, w3]
        obtain ⟨p9, hp9, h⟩ := bindo h
        refine qG 39 43 rfl (decide_eq_true hc8) (ok_indexAddr (s := y0) · tu66 sz70 (.tmp rfl) (.tmp rfl) hp9) ?_
        obtain ⟨p10, hp10, h⟩ := bindo h
        obtain ⟨p11, hp11, h⟩ := bindo h
        refine qG 39 44 rfl (decide_eq_true hc8) (ok_load_a (vs := [(.str p10), (.bool p11)]) · ia70 (.tmp rfl) rfl ⟨ldS_out hp10, ldB_out hp11, trivial⟩ (by simp)) ?_
        refine qG 39 45 rfl (decide_eq_true hc8) (ok_move · (.tmp rfl)) ?_
        obtain ⟨p12, hp12, h⟩ := bindo h
        obtain ⟨p13, hp13, h⟩ := bindo h
        refine q_call_g (t := 39) (dst := some 46) rfl rfl rfl (decide_eq_true hc8) (.tmp rfl) (.cons (.tmp rfl) (.cons (.tmp rfl) Evs.nil)) (hD _ _ hH _ _ _ _ _ hp12) ?_
        rintro _ _ ⟨rfl, rfl⟩
        rw [dI_out hp13]
        try dsimp only [w0, w1, w2, w3]
        refine qG 39 47 rfl (decide_eq_true hc8) (ok_ibin · (.tmp rfl) (.int _ _) rfl) ?_
        refine qS 48 rfl (ok_pick_tt · (.tmp rfl) (decide_eq_true hc8) (.tmp rfl)) ?_
        try dsimp only [w0, w1, w2, w3]
        exact J1_snd hD hH h
      · refine q_skip (dst := some 40) (t := 39) rfl rfl rfl (decide_eq_false hc8) ?_
        refine q_skip (dst := some 41) (t := 39) rfl rfl rfl (decide_eq_false hc8) ?_
        refine q_skip (dst := some 42) (t := 39) rfl rfl rfl (decide_eq_false hc8) ?_
        try dsimp only [w0, w1, w2, w3]
        refine q_skip (dst := some 43) (t := 39) rfl rfl rfl (decide_eq_false hc8) ?_
        refine q_skip (dst := some 44) (t := 39) rfl rfl rfl (decide_eq_false hc8) ?_
        refine q_skip (dst := some 45) (t := 39) rfl rfl rfl (decide_eq_false hc8) ?_
        refine q_skip (dst := some 46) (t := 39) rfl rfl rfl (decide_eq_false hc8) ?_
        try dsimp only [w0, w1, w2, w3]
        refine q_skip (dst := some 47) (t := 39) rfl rfl rfl (decide_eq_false hc8) ?_
        refine qS 48 rfl (ok_pick_ff · (.tmp rfl) (decide_eq_false hc8) (.bool _)) ?_
        try dsimp only [w0, w1, w2, w3]
        exact J1_snd hD hH h
def f (D : Dp) (H : Hd) (k : Nat) (x0 : Sl) (x1 : (List UInt8)) (x2 : HV) (S : HS) : Option ((Int × Bool) × HS) :=
  L0 D H k k x0 x1 x2 (Sl.len x0 : Int) 0 (Sl.len x0 : Int) S
theorem snd {D : Dp} {H : Hd} {k : Nat} {x0 : Sl} {x1 : (List UInt8)} {x2 : HV} {S : HS} (hD : DSound Try.prog base W0 D) (hH : HSound Try.prog base W0 β0 H)  {p : (Int × Bool) × HS} (h : f D H k x0 x1 x2 S = some p) : HCall Try.prog base W0 β0 47 [(Sl.hv x0), (.str x1), x2] S (fun v S1 => v = (.tup [(.int .i64 p.1.1), (.bool p.1.2)]) ∧ S1 = p.2) := by
  unfold f at h
  refine HCall.of_run at_.at_ body ?_
  show HRun Try.prog base W0 β0 47 none [.code c0] ⟨[(Sl.hv x0), (.str x1), x2, τ, τ, τ, τ, τ, τ, τ, τ, τ, τ, τ, τ, τ, τ, τ, τ, τ, τ, τ, τ, τ, τ, τ, τ, τ, τ, τ, τ, τ, τ, τ, τ, τ, τ, τ, τ, τ, τ, τ, τ, τ, τ, τ, τ, τ, τ], []⟩ S _
  refine q_seq rfl ?_
  refine q_region rfl rfl ?_
  refine qS 6 rfl (ok_assign · (.int _ _)) ?_
  refine qS 7 rfl (ok_assign · (.bool _)) ?_
  refine hr_region_end ?_
  try dsimp only [w0, w1, w2, w3]
  refine q_seq rfl ?_
  refine q_region rfl rfl ?_
  refine qS 12 rfl (ok_move · (.tmp rfl)) ?_
  refine qS 13 rfl (ok_len_sl (q := Sl.a x0) (n := Sl.len x0) (z := Sl.cap x0) · rfl tu66 (.tmp rfl)) ?_
  refine qS 8 rfl (ok_assign · (.tmp rfl)) ?_
  refine hr_region_end ?_
  try dsimp only [w0, w1, w2, w3]
  refine q_seq rfl ?_
  refine q_region rfl rfl ?_
  refine qS 14 rfl (ok_move · (.tmp rfl)) ?_
  refine qS 9 rfl (ok_assign · (.int _ _)) ?_
  refine qS 10 rfl (ok_assign · (.tmp rfl)) ?_
  refine hr_region_end ?_
  try dsimp only [w0, w1, w2, w3]
  refine q_seq rfl ?_
  refine q_block rfl ?_
  refine q_loop rfl ?_
  try dsimp only [w0, w1, w2, w3]
  exact L0_snd hD hH h
end
end slices_BinarySearchFunc_book_entry_bool_book_entry_bool_string
namespace book_Book_bool_at_1
theorem at_ : FnAt Try.prog 48 Try.f48 := ⟨Try.func48, by kernel_rfl⟩
noncomputable def d0 := (Try.f48.body).getD .skip
noncomputable def r1 := kR (kA d0)
noncomputable def r3 := kR (kA (kB d0))
noncomputable def c0 : Code := .seq (.region 0 r1 false) (.seq (.region 1 r3 false) .ret)
theorem body : Try.f48.body = some c0 := by kernel_rfl
section
variable {base : Nat} {W0 : World} {β0 : Bt}
def f (k : Nat) (x0_0 : (List UInt8)) (x0_1 : Bool) (x1 : (List UInt8)) (S : HS) : Option ((Int) × HS) :=
  (letv (HS.new S (.cells 2 [[(.str x0_0), (.bool x0_1)]] true)) fun p1 =>
  (Option.bind (HS.ldS p1 (HA.fld (HA.cell0 S.next) 0)) fun p2 =>
  (Option.bind (fold_Compare.f k p2 x1) fun p3 =>
  some (p3, p1))))
theorem snd {k : Nat} {x0_0 : (List UInt8)} {x0_1 : Bool} {x1 : (List UInt8)} {S : HS}  {p : (Int) × HS} (h : f k x0_0 x0_1 x1 S = some p) : HCall Try.prog base W0 β0 48 [(.agg [(.str x0_0), (.bool x0_1)]), (.str x1)] S (fun v S1 => v = (.int .i64 p.1) ∧ S1 = p.2) := by
  unfold f at h
  refine HCall.of_run at_.at_ body ?_
  show HRun Try.prog base W0 β0 48 none [.code c0] ⟨[(.agg [(.str x0_0), (.bool x0_1)]), (.str x1), τ, τ, τ, τ, τ, τ, τ], []⟩ S _
  refine q_seq rfl ?_
  refine q_region rfl rfl ?_
  obtain ⟨p1, hp1, h⟩ := leto h
  refine qS 2 rfl (ok_box_e · (.tmp rfl) (Nat.zero_lt_succ _) rfl hp1) ?_
  refine qS 4 rfl (ok_assign · (.int _ _)) ?_
  refine hr_region_end ?_
  try dsimp only [w0, w1, w2, w3]
  refine q_seq rfl ?_
  refine q_region rfl rfl ?_
  refine qS 5 rfl (ok_fieldAddr_s · fi70_0 (by decide) (.tmp rfl) rfl) ?_
  obtain ⟨p2, hp2, h⟩ := bindo h
  refine qS 6 rfl (ok_load_s · sc9 (.tmp rfl) rfl (ldS_out hp2)) ?_
  refine qS 7 rfl (ok_move · (.tmp rfl)) ?_
  obtain ⟨p3, hp3, h⟩ := bindo h
  refine q_call (dst := some 8) rfl (.func _) (.cons (.tmp rfl) (.cons (.tmp rfl) Evs.nil)) (HInv.static fold_Compare.at_ fold_Compare.body (fold_Compare.snd  hp3)) ?_
  rintro _ _ ⟨rfl, rfl⟩
  try dsimp only [w0, w1, w2, w3]
  refine qS 4 rfl (ok_assign · (.tmp rfl)) ?_
  refine hr_region_end ?_
  try dsimp only [w0, w1, w2, w3]
  cases h
  exact q_ret rfl at_.at_ rfl (res1 rfl rfl) ⟨rfl, rfl⟩
end
end book_Book_bool_at_1
namespace book_Book_bool_at
theorem at_ : FnAt Try.prog 31 Try.f31 := ⟨Try.func31, by kernel_rfl⟩
noncomputable def d0 := (Try.f31.body).getD .skip
noncomputable def r1 := kR (kA d0)
noncomputable def r4 := kR (kA (kA (kB d0)))
noncomputable def r7 := kR (kA (kA (kB (kA (kB d0)))))
noncomputable def r11 := kR (kA (kB (kB d0)))
noncomputable def c0 : Code := .seq (.region 0 r1 false) (.seq (.seq (.region 1 r4 false) (.cond (.tmp 7) (.seq (.region 2 r7 false) .ret) .skip)) (.seq (.region 3 r11 false) .ret))
theorem body : Try.f31.body = some c0 := by kernel_rfl
section
variable {base : Nat} {W0 : World} {β0 : Bt}
def f (D : Dp) (H : Hd) (k : Nat) (x0 : (Option HA)) (x1 : (List UInt8)) (S : HS) : Option ((Int × Bool) × HS) :=
  (if (Option.isNone x0) = true then
  some ((0, false), S) else
  (Option.bind (x0) fun p2 =>
  (Option.bind (HS.ldSl S (HA.fld p2 1)) fun p3 =>
  (Option.bind (slices_BinarySearchFunc_book_entry_bool_book_entry_bool_string.f D H k p3 x1 (HV.fn (.func 48) [] []) S) fun p4 =>
  some ((p4.1.1, p4.1.2), p4.2)))))
theorem snd {D : Dp} {H : Hd} {k : Nat} {x0 : (Option HA)} {x1 : (List UInt8)} {S : HS} (hD : DSound Try.prog base W0 D) (hH : HSound Try.prog base W0 β0 H)  {p : (Int × Bool) × HS} (h : f D H k x0 x1 S = some p) : HCall Try.prog base W0 β0 31 [(.ptr x0), (.str x1)] S (fun v S1 => v = (.tup [(.int .i64 p.1.1), (.bool p.1.2)]) ∧ S1 = p.2) := by
  unfold f at h
  refine HCall.of_run at_.at_ body ?_
  show HRun Try.prog base W0 β0 31 none [.code c0] ⟨[(.ptr x0), (.str x1), τ, τ, τ, τ, τ, τ, τ, τ, τ, τ, τ, τ, τ, τ], []⟩ S _
  refine q_seq rfl ?_
  refine q_region rfl rfl ?_
  refine qS 4 rfl (ok_assign · (.int _ _)) ?_
  refine qS 5 rfl (ok_assign · (.bool _)) ?_
  refine hr_region_end ?_
  try dsimp only [w0, w1, w2, w3]
  refine q_seq rfl ?_
  refine q_seq rfl ?_
  refine q_region rfl rfl ?_
  refine qS 6 rfl (ok_move · (.tmp rfl)) ?_
  refine qS 7 rfl (ok_nil_ptr · tu23 (.tmp rfl) (.inl ⟨rfl, rfl⟩)) ?_
  refine hr_region_end ?_
  try dsimp only [w0, w1, w2, w3]
  rcases ifc h with ⟨hc1, h⟩ | ⟨hc1, h⟩
  · refine q_cond_t rfl (.tmp rfl) hc1 ?_
    refine q_seq rfl ?_
    refine q_region rfl rfl ?_
    refine qS 4 rfl (ok_assign · (.int _ _)) ?_
    refine qS 5 rfl (ok_assign · (.bool _)) ?_
    refine hr_region_end ?_
    try dsimp only [w0, w1, w2, w3]
    cases h
    exact q_ret rfl at_.at_ rfl (res2 rfl rfl rfl) ⟨rfl, rfl⟩
  · refine q_cond_f rfl (.tmp rfl) (bfalse hc1) ?_
    refine q_skipc rfl ?_
    refine q_seq rfl ?_
    refine q_region rfl rfl ?_
    refine qS 8 rfl (ok_move · (.tmp rfl)) ?_
    obtain ⟨p2, hp2, h⟩ := bindo h
    refine qS 9 rfl (ok_nilCheck_p · (.tmp rfl) hp2) ?_
    refine qS 10 rfl (ok_fieldAddr_s · fi68_1 (by decide) (.tmp rfl) rfl) ?_
    obtain ⟨p3, hp3, h⟩ := bindo h
    refine qS 11 rfl (ok_load_s · sc66 (.tmp rfl) rfl (ldSl_out hp3)) ?_
    try dsimp only [w0, w1, w2, w3]
    refine qS 12 rfl (ok_move · (.tmp rfl)) ?_
    obtain ⟨p4, hp4, h⟩ := bindo h
    refine q_call (dst := some 13) rfl (.func _) (.cons (.tmp rfl) (.cons (.tmp rfl) (.cons (.func _) Evs.nil))) (HInv.static slices_BinarySearchFunc_book_entry_bool_book_entry_bool_string.at_ slices_BinarySearchFunc_book_entry_bool_book_entry_bool_string.body (slices_BinarySearchFunc_book_entry_bool_book_entry_bool_string.snd hD hH hp4)) ?_
    rintro _ _ ⟨rfl, rfl⟩
    refine qS 14 rfl (ok_extract · (.tmp rfl) rfl) ?_
    refine qS 15 rfl (ok_extract · (.tmp rfl) rfl) ?_
    try dsimp only [w0, w1, w2, w3]
    refine qS 4 rfl (ok_assign · (.tmp rfl)) ?_
    refine qS 5 rfl (ok_assign · (.tmp rfl)) ?_
    refine hr_region_end ?_
    try dsimp only [w0, w1, w2, w3]
    cases h
    exact q_ret rfl at_.at_ rfl (res2 rfl rfl rfl) ⟨rfl, rfl⟩
end
end book_Book_bool_at
namespace slices_Reverse_book_entry_bool_book_entry_bool
theorem at_ : FnAt Try.prog 70 Try.f70 := ⟨Try.func70, by kernel_rfl⟩
noncomputable def d0 := (Try.f70.body).getD .skip
noncomputable def r1 := kR (kA d0)
noncomputable def r6 := kR (kA (kA (kA (kA (kB d0)))))
noncomputable def r12 := kR (kA (kA (kB (kA (kA (kB d0))))))
noncomputable def r13 := kR (kB (kB (kA (kA (kB d0)))))
noncomputable def c4 : Code := .seq (.seq (.region 1 r6 false) (.cond (.tmp 9) .skip (.exit 0))) (.seq (.block 1 (.region 3 r12 true)) (.region 2 r13 false))
noncomputable def c0 : Code := .seq (.region 0 r1 false) (.block 0 (.loop c4))
theorem body : Try.f70.body = some c0 := by kernel_rfl
section
variable {base : Nat} {W0 : World} {β0 : Bt}
def L0 (k : Nat) : Nat → Sl → Int → Int → HS → Option ((Unit) × HS)
  | 0, _, _, _, _ => none
  | n + 1, y0, y2, y3, S =>
    (if y2 < y3 then
    (Option.bind (HS.idx S y0 y3 2) fun p2 =>
    (Option.bind (HS.ldS S (HA.fld p2 0)) fun p3 =>
    (Option.bind (HS.ldB S (HA.fld p2 1)) fun p4 =>
    (Option.bind (HS.idx S y0 y2 2) fun p5 =>
    (Option.bind (HS.ldS S (HA.fld p5 0)) fun p6 =>
    (Option.bind (HS.ldB S (HA.fld p5 1)) fun p7 =>
    (Option.bind (HS.idx S y0 y2 2) fun p8 =>
    (Option.bind (HS.sets S p8 [(.str p3), (.bool p4)]) fun p9 =>
    (Option.bind (HS.idx p9 y0 y3 2) fun p10 =>
    (Option.bind (HS.sets p9 p10 [(.str p6), (.bool p7)]) fun p11 =>
    (L0 k n) y0 (w64 (y2 + 1)) (w64 (y3 - 1)) p11)))))))))) else
    some ((), S))
theorem L0_snd {k : Nat}  : ∀ {n : Nat} ⦃y0 : Sl⦄ ⦃y2 : Int⦄ ⦃y3 : Int⦄ ⦃S : HS⦄ ⦃p : (Unit) × HS⦄ ⦃g1 g4 g5 g6 g7 g8 g9 g10 g11 g12 g13 g14 g15 g16 g17 g18 g19 g20 g21 g22 g23 g24 g25 g26 g27 : HV⦄, L0 k n y0 y2 y3 S = some p → HRun Try.prog base W0 β0 70 none [.inLoop c4, .inBlock 0] ⟨[(Sl.hv y0), g1, (.int .i64 y2), (.int .i64 y3), g4, g5, g6, g7, g8, g9, g10, g11, g12, g13, g14, g15, g16, g17, g18, g19, g20, g21, g22, g23, g24, g25, g26, g27], []⟩ S (fun v S1 => v = (.tup []) ∧ S1 = p.2) := by
  intro n
  induction n with
  | zero => intro _ _ _ _ _ _ _ _ _ _ _ _ _ _ _ _ _ _ _ _ _ _ _ _ _ _ _ _ _ _ h; cases h
  | succ n ih =>
    intro y0 y2 y3 S p g1 g4 g5 g6 g7 g8 g9 g10 g11 g12 g13 g14 g15 g16 g17 g18 g19 g20 g21 g22 g23 g24 g25 g26 g27 h
    simp only [L0] at h
    refine hr_inLoop ?_
    refine q_seq rfl ?_
    refine q_seq rfl ?_
    refine q_region rfl rfl ?_
    refine qS 7 rfl (ok_move · (.tmp rfl)) ?_
    refine qS 8 rfl (ok_move · (.tmp rfl)) ?_
    refine qS 9 rfl (ok_ibin · (.tmp rfl) (.tmp rfl) rfl) ?_
    refine hr_region_end ?_
    try dsimp only [w0, w1, w2, w3]
    rcases ifc h with ⟨hc1, h⟩ | ⟨hc1, h⟩
    · refine q_cond_t rfl (.tmp rfl) (decide_eq_true hc1) ?_
      refine q_skipc rfl ?_
      refine q_seq rfl ?_
      refine q_block rfl ?_
      refine x_start (cls := [0, 0, 0, 0, 0, 0, 1, 1, 0, 0, 1, 1, 1, 2, 1, 2]) (rk := [0, 1, 12, 13, 2, 3, 4, 5, 6, 7, 8, 9, 10, 11, 14, 15]) rfl (by kernel_rfl) ?_
      refine yf 14 [0] rfl (ok_move · (.tmp rfl)) ?_
      refine yf 15 [2] rfl (ok_move · (.tmp rfl)) ?_
      refine yf 16 [0] rfl (ok_move · (.tmp rfl)) ?_
      refine yf 17 [3] rfl (ok_move · (.tmp rfl)) ?_
      try dsimp only [w0, w1, w2, w3]
      refine yf 18 [0] rfl (ok_move · (.tmp rfl)) ?_
      refine yf 19 [3] rfl (ok_move · (.tmp rfl)) ?_
      obtain ⟨p2, hp2, h⟩ := bindo h
      refine yr 20 [18, 19] rfl (ok_indexAddr (s := y0) · tu66 sz70 (.tmp rfl) (.tmp rfl) hp2) ?_
      obtain ⟨p3, hp3, h⟩ := bindo h
      obtain ⟨p4, hp4, h⟩ := bindo h
      refine yr 21 [20] rfl (ok_load_a (vs := [(.str p3), (.bool p4)]) · ia70 (.tmp rfl) rfl ⟨ldS_out hp3, ldB_out hp4, trivial⟩ (by simp)) ?_
      try dsimp only [w0, w1, w2, w3]
      refine yf 22 [0] rfl (ok_move · (.tmp rfl)) ?_
      refine yf 23 [2] rfl (ok_move · (.tmp rfl)) ?_
      obtain ⟨p5, hp5, h⟩ := bindo h
      refine yr 24 [22, 23] rfl (ok_indexAddr (s := y0) · tu66 sz70 (.tmp rfl) (.tmp rfl) hp5) ?_
      obtain ⟨p6, hp6, h⟩ := bindo h
      obtain ⟨p7, hp7, h⟩ := bindo h
      refine yr 25 [24] rfl (ok_load_a (vs := [(.str p6), (.bool p7)]) · ia70 (.tmp rfl) rfl ⟨ldS_out hp6, ldB_out hp7, trivial⟩ (by simp)) ?_
      try dsimp only [w0, w1, w2, w3]
      obtain ⟨p8, hp8, h⟩ := bindo h
      refine yr 26 [14, 15] rfl (ok_indexAddr (s := y0) · tu66 sz70 (.tmp rfl) (.tmp rfl) hp8) ?_
      obtain ⟨p9, hp9, h⟩ := bindo h
      refine x_go (e_op (dst := none) (ts := [26, 21]) rfl (by intro _ _ h; cases h) (by kernel_rfl) (fun _ ho => ok_store_s (v := (.agg [(.str p3), (.bool p4)])) ho sz70 (.tmp rfl) rfl (.tmp rfl) rfl hp9)) rfl ?_
      obtain ⟨p10, hp10, h⟩ := bindo h
      refine yr 27 [16, 17] rfl (ok_indexAddr (s := y0) · tu66 sz70 (.tmp rfl) (.tmp rfl) hp10) ?_
      obtain ⟨p11, hp11, h⟩ := bindo h
      refine x_go (e_op (dst := none) (ts := [27, 25]) rfl (by intro _ _ h; cases h) (by kernel_rfl) (fun _ ho => ok_store_s (v := (.agg [(.str p6), (.bool p7)])) ho sz70 (.tmp rfl) rfl (.tmp rfl) rfl hp11)) rfl ?_
      refine x_rest rfl ?_
      refine hr_region_end ?_
      try dsimp only [w0, w1, w2, w3]
      refine hr_inBlock ?_
      refine q_region rfl rfl ?_
      refine qS 10 rfl (ok_move · (.tmp rfl)) ?_
      refine qS 11 rfl (ok_ibin · (.tmp rfl) (.int _ _) rfl) ?_
      refine qS 12 rfl (ok_move · (.tmp rfl)) ?_
      refine qS 13 rfl (ok_ibin · (.tmp rfl) (.int _ _) rfl) ?_
      try dsimp only [w0, w1, w2, w3]
      refine qS 2 rfl (ok_assign · (.tmp rfl)) ?_
      refine qS 3 rfl (ok_assign · (.tmp rfl)) ?_
      refine hr_region_end ?_
      try dsimp only [w0, w1, w2, w3]
      try dsimp only [w0, w1, w2, w3]
      exact ih h
    · refine q_cond_f rfl (.tmp rfl) (decide_eq_false hc1) ?_
      refine q_exit rfl rfl ?_
      cases h
      exact q_end at_.at_ rfl (res0 rfl) ⟨rfl, rfl⟩
def f (k : Nat) (x0 : Sl) (S : HS) : Option ((Unit) × HS) :=
  L0 k k x0 0 (w64 ((Sl.len x0 : Int) - 1)) S
theorem snd {k : Nat} {x0 : Sl} {S : HS}  {p : (Unit) × HS} (h : f k x0 S = some p) : HCall Try.prog base W0 β0 70 [(Sl.hv x0)] S (fun v S1 => v = (.tup []) ∧ S1 = p.2) := by
  unfold f at h
  refine HCall.of_run at_.at_ body ?_
  show HRun Try.prog base W0 β0 70 none [.code c0] ⟨[(Sl.hv x0), τ, τ, τ, τ, τ, τ, τ, τ, τ, τ, τ, τ, τ, τ, τ, τ, τ, τ, τ, τ, τ, τ, τ, τ, τ, τ, τ], []⟩ S _
  refine q_seq rfl ?_
  refine q_region rfl rfl ?_
  refine qS 4 rfl (ok_move · (.tmp rfl)) ?_
  refine qS 5 rfl (ok_len_sl (q := Sl.a x0) (n := Sl.len x0) (z := Sl.cap x0) · rfl tu66 (.tmp rfl)) ?_
  refine qS 6 rfl (ok_ibin · (.tmp rfl) (.int _ _) rfl) ?_
  refine qS 2 rfl (ok_assign · (.int _ _)) ?_
  try dsimp only [w0, w1, w2, w3]
  refine qS 3 rfl (ok_assign · (.tmp rfl)) ?_
  refine hr_region_end ?_
  try dsimp only [w0, w1, w2, w3]
  refine q_block rfl ?_
  refine q_loop rfl ?_
  try dsimp only [w0, w1, w2, w3]
  exact L0_snd  h
end
end slices_Reverse_book_entry_bool_book_entry_bool
namespace slices_rotateLeft_book_entry_bool
theorem at_ : FnAt Try.prog 66 Try.f66 := ⟨Try.func66, by kernel_rfl⟩
noncomputable def d0 := (Try.f66.body).getD .skip
noncomputable def r1 := kR (kA d0)
noncomputable def r3 := kR (kA (kB d0))
noncomputable def r4 := kR (kB (kB d0))
noncomputable def c0 : Code := .seq (.region 0 r1 false) (.seq (.region 1 r3 false) (.region 2 r4 false))
theorem body : Try.f66.body = some c0 := by kernel_rfl
section
variable {base : Nat} {W0 : World} {β0 : Bt}
def f (k : Nat) (x0 : Sl) (x1 : Int) (S : HS) : Option ((Unit) × HS) :=
  (Option.bind (HS.cut S x0 0 x1 2) fun p1 =>
  (Option.bind (slices_Reverse_book_entry_bool_book_entry_bool.f k p1 S) fun p2 =>
  (Option.bind (HS.cut p2.2 x0 x1 (Sl.len x0 : Int) 2) fun p3 =>
  (Option.bind (slices_Reverse_book_entry_bool_book_entry_bool.f k p3 p2.2) fun p4 =>
  (Option.bind (slices_Reverse_book_entry_bool_book_entry_bool.f k x0 p4.2) fun p5 =>
  some ((), p5.2))))))
theorem snd {k : Nat} {x0 : Sl} {x1 : Int} {S : HS}  {p : (Unit) × HS} (h : f k x0 x1 S = some p) : HCall Try.prog base W0 β0 66 [(Sl.hv x0), (.int .i64 x1)] S (fun v S1 => v = (.tup []) ∧ S1 = p.2) := by
  unfold f at h
  refine HCall.of_run at_.at_ body ?_
  show HRun Try.prog base W0 β0 66 none [.code c0] ⟨[(Sl.hv x0), (.int .i64 x1), τ, τ, τ, τ, τ, τ, τ, τ, τ, τ, τ, τ], []⟩ S _
  refine q_seq rfl ?_
  refine q_region rfl rfl ?_
  refine qS 4 rfl (ok_move · (.tmp rfl)) ?_
  refine qS 5 rfl (ok_move · (.tmp rfl)) ?_
  obtain ⟨p1, hp1, h⟩ := bindo h
  refine qS 6 rfl (ok_slice (kl := .i64) (kh := .i64) (s := x0) (l := 0) (h := x1) · tu66 si70 (.tmp rfl) (.inl ⟨rfl, rfl⟩) (.inr ⟨_, rfl, (.tmp rfl)⟩) hp1) ?_
  obtain ⟨p2, hp2, h⟩ := bindo h
  refine q_call (dst := some 7) rfl (.func _) (.cons (.tmp rfl) Evs.nil) (HInv.static slices_Reverse_book_entry_bool_book_entry_bool.at_ slices_Reverse_book_entry_bool_book_entry_bool.body (slices_Reverse_book_entry_bool_book_entry_bool.snd  hp2)) ?_
  rintro _ _ ⟨rfl, rfl⟩
  refine hr_region_end ?_
  try dsimp only [w0, w1, w2, w3]
  refine q_seq rfl ?_
  refine q_region rfl rfl ?_
  refine qS 8 rfl (ok_move · (.tmp rfl)) ?_
  refine qS 9 rfl (ok_move · (.tmp rfl)) ?_
  obtain ⟨p3, hp3, h⟩ := bindo h
  refine qS 10 rfl (ok_slice (kl := .i64) (kh := .i64) (s := x0) (l := x1) (h := (Sl.len x0 : Int)) · tu66 si70 (.tmp rfl) (.inr ⟨_, rfl, (.tmp rfl)⟩) (.inl ⟨rfl, rfl⟩) hp3) ?_
  obtain ⟨p4, hp4, h⟩ := bindo h
  refine q_call (dst := some 11) rfl (.func _) (.cons (.tmp rfl) Evs.nil) (HInv.static slices_Reverse_book_entry_bool_book_entry_bool.at_ slices_Reverse_book_entry_bool_book_entry_bool.body (slices_Reverse_book_entry_bool_book_entry_bool.snd  hp4)) ?_
  rintro _ _ ⟨rfl, rfl⟩
  refine hr_region_end ?_
  try dsimp only [w0, w1, w2, w3]
  refine q_region rfl rfl ?_
  refine qS 12 rfl (ok_move · (.tmp rfl)) ?_
  obtain ⟨p5, hp5, h⟩ := bindo h
  refine q_call (dst := some 13) rfl (.func _) (.cons (.tmp rfl) Evs.nil) (HInv.static slices_Reverse_book_entry_bool_book_entry_bool.at_ slices_Reverse_book_entry_bool_book_entry_bool.body (slices_Reverse_book_entry_bool_book_entry_bool.snd  hp5)) ?_
  rintro _ _ ⟨rfl, rfl⟩
  refine hr_region_end ?_
  try dsimp only [w0, w1, w2, w3]
  cases h
  exact q_end at_.at_ rfl (res0 rfl) ⟨rfl, rfl⟩
end
end slices_rotateLeft_book_entry_bool
namespace slices_rotateRight_book_entry_bool
theorem at_ : FnAt Try.prog 51 Try.f51 := ⟨Try.func51, by kernel_rfl⟩
noncomputable def d0 := (Try.f51.body).getD .skip
noncomputable def r0 := kR d0
noncomputable def c0 : Code := .region 0 r0 false
theorem body : Try.f51.body = some c0 := by kernel_rfl
section
variable {base : Nat} {W0 : World} {β0 : Bt}
def f (k : Nat) (x0 : Sl) (x1 : Int) (S : HS) : Option ((Unit) × HS) :=
  (Option.bind (slices_rotateLeft_book_entry_bool.f k x0 (w64 ((Sl.len x0 : Int) - x1)) S) fun p1 =>
  some ((), p1.2))
theorem snd {k : Nat} {x0 : Sl} {x1 : Int} {S : HS}  {p : (Unit) × HS} (h : f k x0 x1 S = some p) : HCall Try.prog base W0 β0 51 [(Sl.hv x0), (.int .i64 x1)] S (fun v S1 => v = (.tup []) ∧ S1 = p.2) := by
  unfold f at h
  refine HCall.of_run at_.at_ body ?_
  show HRun Try.prog base W0 β0 51 none [.code c0] ⟨[(Sl.hv x0), (.int .i64 x1), τ, τ, τ, τ, τ, τ, τ, τ], []⟩ S _
  refine q_region rfl rfl ?_
  refine qS 4 rfl (ok_move · (.tmp rfl)) ?_
  refine qS 5 rfl (ok_move · (.tmp rfl)) ?_
  refine qS 6 rfl (ok_len_sl (q := Sl.a x0) (n := Sl.len x0) (z := Sl.cap x0) · rfl tu66 (.tmp rfl)) ?_
  refine qS 7 rfl (ok_move · (.tmp rfl)) ?_
  try dsimp only [w0, w1, w2, w3]
  refine qS 8 rfl (ok_ibin · (.tmp rfl) (.tmp rfl) rfl) ?_
  obtain ⟨p1, hp1, h⟩ := bindo h
  refine q_call (dst := some 9) rfl (.func _) (.cons (.tmp rfl) (.cons (.tmp rfl) Evs.nil)) (HInv.static slices_rotateLeft_book_entry_bool.at_ slices_rotateLeft_book_entry_bool.body (slices_rotateLeft_book_entry_bool.snd  hp1)) ?_
  rintro _ _ ⟨rfl, rfl⟩
  refine hr_region_end ?_
  try dsimp only [w0, w1, w2, w3]
  cases h
  exact q_end at_.at_ rfl (res0 rfl) ⟨rfl, rfl⟩
end
end slices_rotateRight_book_entry_bool
namespace slices_Insert_book_entry_bool_book_entry_bool
theorem at_ : FnAt Try.prog 32 Try.f32 := ⟨Try.func32, by kernel_rfl⟩
noncomputable def d0 := (Try.f32.body).getD .skip
noncomputable def r1 := kR (kA d0)
noncomputable def r3 := kR (kA (kB d0))
noncomputable def r5 := kR (kA (kB (kB d0)))
noncomputable def d6 := kB (kB (kB d0))
noncomputable def r8 := kR (kA (kA d6))
noncomputable def r11 := kR (kA (kA (kB (kA d6))))
noncomputable def r15 := kR (kA (kB d6))
noncomputable def r18 := kR (kA (kA (kB (kB d6))))
noncomputable def r21 := kR (kA (kA (kB (kA (kB (kB d6))))))
noncomputable def d24 := kB (kB (kB d6))
noncomputable def r26 := kR (kA (kA d24))
noncomputable def d28 := kA (kB (kA d24))
noncomputable def r29 := kR (kA d28)
noncomputable def r31 := kR (kA (kB d28))
noncomputable def r33 := kR (kA (kB (kB d28)))
noncomputable def r35 := kR (kA (kB (kB (kB d28))))
noncomputable def r39 := kR (kA (kB d24))
noncomputable def d41 := kA (kB (kB d24))
noncomputable def r42 := kR (kA d41)
noncomputable def r45 := kR (kA (kA (kB d41)))
noncomputable def r47 := kR (kA (kB (kA (kB d41))))
noncomputable def r49 := kR (kA (kB (kB (kA (kB d41)))))
noncomputable def r53 := kR (kA (kB (kB (kB d24))))
noncomputable def r55 := kR (kA (kB (kB (kB (kB d24)))))
noncomputable def r57 := kR (kA (kB (kB (kB (kB (kB d24))))))
noncomputable def c0 : Code := .seq (.region 0 r1 false) (.seq (.region 1 r3 false) (.seq (.region 2 r5 false) (.seq (.seq (.region 3 r8 false) (.cond (.tmp 16) (.seq (.region 4 r11 false) .ret) .skip)) (.seq (.region 5 r15 false) (.seq (.seq (.region 6 r18 false) (.cond (.tmp 22) (.seq (.region 7 r21 false) .ret) .skip)) (.seq (.seq (.region 8 r26 false) (.cond (.tmp 31) (.seq (.region 9 r29 false) (.seq (.region 10 r31 false) (.seq (.region 11 r33 true) (.seq (.region 12 r35 false) .ret)))) .skip)) (.seq (.region 13 r39 false) (.seq (.seq (.region 14 r42 false) (.cond (.tmp 68) (.seq (.region 15 r45 true) (.seq (.region 16 r47 false) (.seq (.region 17 r49 false) .ret))) .skip)) (.seq (.region 18 r53 false) (.seq (.region 19 r55 false) (.seq (.region 20 r57 false) .ret)))))))))))
theorem body : Try.f32.body = some c0 := by kernel_rfl
section
variable {base : Nat} {W0 : World} {β0 : Bt}
def f (k : Nat) (x0 : Sl) (x1 : Int) (x2 : Sl) (S : HS) : Option ((Sl) × HS) :=
  (Option.bind (HS.cut S x0 x1 (Sl.len x0 : Int) 2) fun p1 =>
  (if (Sl.len x2 : Int) = 0 then
  some (x0, S) else
  (if x1 = (Sl.len x0 : Int) then
  (Option.bind (HS.rows S x2 2) fun p4 =>
  (Option.bind (HS.app S x0 p4 2) fun p5 =>
  some ((p5.1), (p5.2)))) else
  (Option.bind (Sl.capOf x0) fun p6 =>
  (if (w64 ((Sl.len x0 : Int) + (Sl.len x2 : Int))) > p6 then
  (Option.bind (HS.cut S x0 0 x1 2) fun p8 =>
  (Option.bind (HS.appZ S p8 (w64 ((w64 ((Sl.len x0 : Int) + (Sl.len x2 : Int))) - x1)) [(.str []), (.bool false)] 2) fun p9 =>
  (Option.bind (HS.cut (p9.2) (p9.1) x1 (Sl.len (p9.1) : Int) 2) fun p10 =>
  (Option.bind (HS.rows (p9.2) x2 2) fun p11 =>
  (Option.bind (HS.over (p9.2) p10 (List.take (Sl.len p10) p11) 2) fun p12 =>
  (Option.bind (HS.cut p12 (p9.1) (w64 (x1 + (Sl.len x2 : Int))) (Sl.len (p9.1) : Int) 2) fun p13 =>
  (Option.bind (HS.cut p12 x0 x1 (Sl.len x0 : Int) 2) fun p14 =>
  (Option.bind (HS.rows p12 p14 2) fun p15 =>
  (Option.bind (HS.over p12 p13 (List.take (Sl.len p13) p15) 2) fun p16 =>
  some ((p9.1), p16)))))))))) else
  (Option.bind (HS.cut S x0 0 (w64 ((Sl.len x0 : Int) + (Sl.len x2 : Int))) 2) fun p17 =>
  (Option.bind (HS.cut S p17 (w64 (x1 + (Sl.len x2 : Int))) (Sl.len p17 : Int) 2) fun p18 =>
  (Option.bind (HS.ovl S x2 p18) fun p19 =>
  (if (!p19) = true then
  (Option.bind (HS.cut S p17 (w64 (x1 + (Sl.len x2 : Int))) (Sl.len p17 : Int) 2) fun p21 =>
  (Option.bind (HS.cut S p17 x1 (Sl.len p17 : Int) 2) fun p22 =>
  (Option.bind (HS.rows S p22 2) fun p23 =>
  (Option.bind (HS.over S p21 (List.take (Sl.len p21) p23) 2) fun p24 =>
  (Option.bind (HS.cut p24 p17 x1 (Sl.len p17 : Int) 2) fun p25 =>
  (Option.bind (HS.rows p24 x2 2) fun p26 =>
  (Option.bind (HS.over p24 p25 (List.take (Sl.len p25) p26) 2) fun p27 =>
  some (p17, p27)))))))) else
  (Option.bind (HS.cut S p17 (Sl.len x0 : Int) (Sl.len p17 : Int) 2) fun p28 =>
  (Option.bind (HS.rows S x2 2) fun p29 =>
  (Option.bind (HS.over S p28 (List.take (Sl.len p28) p29) 2) fun p30 =>
  (Option.bind (HS.cut p30 p17 x1 (Sl.len p17 : Int) 2) fun p31 =>
  (Option.bind (slices_rotateRight_book_entry_bool.f k p31 (Sl.len x2 : Int) p30) fun p32 =>
  some (p17, p32.2)))))))))))))))
theorem snd {k : Nat} {x0 : Sl} {x1 : Int} {x2 : Sl} {S : HS}  {p : (Sl) × HS} (h : f k x0 x1 x2 S = some p) : HCall Try.prog base W0 β0 32 [(Sl.hv x0), (.int .i64 x1), (Sl.hv x2)] S (fun v S1 => v = (Sl.hv p.1) ∧ S1 = p.2) := by
  unfold f at h
  refine HCall.of_run at_.at_ body ?_
  show HRun Try.prog base W0 β0 32 none [.code c0] ⟨[(Sl.hv x0), (.int .i64 x1), (Sl.hv x2), τ, τ, τ, τ, τ, τ, τ, τ, τ, τ, τ, τ, τ, τ, τ, τ, τ, τ, τ, τ, τ, τ, τ, τ, τ, τ, τ, τ, τ, τ, τ, τ, τ, τ, τ, τ, τ, τ, τ, τ, τ, τ, τ, τ, τ, τ, τ, τ, τ, τ, τ, τ, τ, τ, τ, τ, τ, τ, τ, τ, τ, τ, τ, τ, τ, τ, τ, τ, τ, τ, τ, τ, τ, τ, τ, τ, τ, τ, τ, τ, τ, τ, τ, τ, τ, τ, τ, τ, τ, τ, τ, τ], []⟩ S _
  refine q_seq rfl ?_
  refine q_region rfl rfl ?_
  refine qS 6 rfl (ok_assign · (.const fun _ => .slNil none)) ?_
  refine hr_region_end ?_
  try dsimp only [w0, w1, w2, w3]
  refine q_seq rfl ?_
  refine q_region rfl rfl ?_
  refine qS 10 rfl (ok_move · (.tmp rfl)) ?_
  refine qS 11 rfl (ok_move · (.tmp rfl)) ?_
  obtain ⟨p1, hp1, h⟩ := bindo h
  refine qS 12 rfl (ok_slice (kl := .i64) (kh := .i64) (s := x0) (l := x1) (h := (Sl.len x0 : Int)) · tu66 si70 (.tmp rfl) (.inr ⟨_, rfl, (.tmp rfl)⟩) (.inl ⟨rfl, rfl⟩) hp1) ?_
  refine hr_region_end ?_
  try dsimp only [w0, w1, w2, w3]
  refine q_seq rfl ?_
  refine q_region rfl rfl ?_
  refine qS 13 rfl (ok_move · (.tmp rfl)) ?_
  refine qS 14 rfl (ok_len_sl (q := Sl.a x2) (n := Sl.len x2) (z := Sl.cap x2) · rfl tu66 (.tmp rfl)) ?_
  refine qS 7 rfl (ok_assign · (.tmp rfl)) ?_
  refine hr_region_end ?_
  try dsimp only [w0, w1, w2, w3]
  refine q_seq rfl ?_
  refine q_seq rfl ?_
  refine q_region rfl rfl ?_
  refine qS 15 rfl (ok_move · (.tmp rfl)) ?_
  refine qS 16 rfl (ok_ibin · (.tmp rfl) (.int _ _) rfl) ?_
  refine hr_region_end ?_
  try dsimp only [w0, w1, w2, w3]
  rcases ifc h with ⟨hc2, h⟩ | ⟨hc2, h⟩
  · refine q_cond_t rfl (.tmp rfl) (decide_eq_true hc2) ?_
    refine q_seq rfl ?_
    refine q_region rfl rfl ?_
    refine qS 17 rfl (ok_move · (.tmp rfl)) ?_
    refine qS 6 rfl (ok_assign · (.tmp rfl)) ?_
    refine hr_region_end ?_
    try dsimp only [w0, w1, w2, w3]
    cases h
    exact q_ret rfl at_.at_ rfl (res1 rfl rfl) ⟨rfl, rfl⟩
  · refine q_cond_f rfl (.tmp rfl) (decide_eq_false hc2) ?_
    refine q_skipc rfl ?_
    refine q_seq rfl ?_
    refine q_region rfl rfl ?_
    refine qS 18 rfl (ok_move · (.tmp rfl)) ?_
    refine qS 19 rfl (ok_len_sl (q := Sl.a x0) (n := Sl.len x0) (z := Sl.cap x0) · rfl tu66 (.tmp rfl)) ?_
    refine qS 8 rfl (ok_assign · (.tmp rfl)) ?_
    refine hr_region_end ?_
    try dsimp only [w0, w1, w2, w3]
    refine q_seq rfl ?_
    refine q_seq rfl ?_
    refine q_region rfl rfl ?_
    refine qS 20 rfl (ok_move · (.tmp rfl)) ?_
    refine qS 21 rfl (ok_move · (.tmp rfl)) ?_
    refine qS 22 rfl (ok_ibin · (.tmp rfl) (.tmp rfl) rfl) ?_
    refine hr_region_end ?_
    try dsimp only [w0, w1, w2, w3]
    rcases ifc h with ⟨hc3, h⟩ | ⟨hc3, h⟩
    · refine q_cond_t rfl (.tmp rfl) (decide_eq_true hc3) ?_
      refine q_seq rfl ?_
      refine q_region rfl rfl ?_
      refine qS 23 rfl (ok_move · (.tmp rfl)) ?_
      refine qS 24 rfl (ok_move · (.tmp rfl)) ?_
      obtain ⟨p4, hp4, h⟩ := bindo h
      obtain ⟨p5, hp5, h⟩ := bindo h
      refine qS 25 rfl (ok_append (s := x0) (s1 := x2) el66 · rfl rfl ⟨_, tu66⟩ (.tmp rfl) (.tmp rfl) hp4 hp5) ?_
      refine qS 6 rfl (ok_assign · (.tmp rfl)) ?_
      refine hr_region_end ?_
      try dsimp only [w0, w1, w2, w3]
      cases h
      exact q_ret rfl at_.at_ rfl (res1 rfl rfl) ⟨rfl, rfl⟩
    · refine q_cond_f rfl (.tmp rfl) (decide_eq_false hc3) ?_
      refine q_skipc rfl ?_
      refine q_seq rfl ?_
      refine q_seq rfl ?_
      refine q_region rfl rfl ?_
      refine qS 26 rfl (ok_move · (.tmp rfl)) ?_
      refine qS 27 rfl (ok_move · (.tmp rfl)) ?_
      refine qS 28 rfl (ok_ibin · (.tmp rfl) (.tmp rfl) rfl) ?_
      refine qS 29 rfl (ok_move · (.tmp rfl)) ?_
      try dsimp only [w0, w1, w2, w3]
      obtain ⟨p6, hp6, h⟩ := bindo h
      refine qS 30 rfl (ok_cap (s := x0) · rfl tu66 (.tmp rfl) hp6) ?_
      refine qS 31 rfl (ok_ibin · (.tmp rfl) (.tmp rfl) rfl) ?_
      refine hr_region_end ?_
      try dsimp only [w0, w1, w2, w3]
      rcases ifc h with ⟨hc7, h⟩ | ⟨hc7, h⟩
      · refine q_cond_t rfl (.tmp rfl) (decide_eq_true hc7) ?_
        refine q_seq rfl ?_
        refine q_region rfl rfl ?_
        refine qS 32 rfl (ok_move · (.tmp rfl)) ?_
        refine qS 33 rfl (ok_move · (.tmp rfl)) ?_
        obtain ⟨p8, hp8, h⟩ := bindo h
        refine qS 34 rfl (ok_slice (kl := .i64) (kh := .i64) (s := x0) (l := 0) (h := x1) · tu66 si70 (.tmp rfl) (.inl ⟨rfl, rfl⟩) (.inr ⟨_, rfl, (.tmp rfl)⟩) hp8) ?_
        refine qS 35 rfl (ok_move · (.tmp rfl)) ?_
        try dsimp only [w0, w1, w2, w3]
        refine qS 36 rfl (ok_move · (.tmp rfl)) ?_
        refine qS 37 rfl (ok_ibin · (.tmp rfl) (.tmp rfl) rfl) ?_
        refine qS 38 rfl (ok_move · (.tmp rfl)) ?_
        refine qS 39 rfl (ok_ibin · (.tmp rfl) (.tmp rfl) rfl) ?_
        try dsimp only [w0, w1, w2, w3]
        obtain ⟨p9, hp9, h⟩ := bindo h
        refine qS 40 rfl (ok_append_zeros (s := p8) el66 · rfl rfl tu3 (.tmp rfl) (.tmp rfl) hp9) ?_
        refine qS 9 rfl (ok_assign · (.tmp rfl)) ?_
        refine hr_region_end ?_
        try dsimp only [w0, w1, w2, w3]
        refine q_seq rfl ?_
        refine q_region rfl rfl ?_
        refine qS 41 rfl (ok_move · (.tmp rfl)) ?_
        refine qS 42 rfl (ok_move · (.tmp rfl)) ?_
        obtain ⟨p10, hp10, h⟩ := bindo h
        refine qS 43 rfl (ok_slice (kl := .i64) (kh := .i64) (s := (p9.1)) (l := x1) (h := (Sl.len (p9.1) : Int)) · tu66 si70 (.tmp rfl) (.inr ⟨_, rfl, (.tmp rfl)⟩) (.inl ⟨rfl, rfl⟩) hp10) ?_
        refine qS 44 rfl (ok_move · (.tmp rfl)) ?_
        try dsimp only [w0, w1, w2, w3]
        obtain ⟨p11, hp11, h⟩ := bindo h
        obtain ⟨p12, hp12, h⟩ := bindo h
        refine qS 45 rfl (ok_copy (s := p10) (s1 := x2) el66 · rfl (.tmp rfl) (.tmp rfl) hp11 hp12) ?_
        refine hr_region_end ?_
        try dsimp only [w0, w1, w2, w3]
        refine q_seq rfl ?_
        refine x_start (cls := [0, 0, 0, 0, 1, 0, 0, 1, 2]) (rk := [0, 1, 2, 3, 4, 5, 6, 7, 8]) rfl (by kernel_rfl) ?_
        refine yf 46 [9] rfl (ok_move · (.tmp rfl)) ?_
        refine yf 47 [1] rfl (ok_move · (.tmp rfl)) ?_
        refine yf 48 [7] rfl (ok_move · (.tmp rfl)) ?_
        refine yf 49 [47, 48] rfl (ok_ibin · (.tmp rfl) (.tmp rfl) rfl) ?_
        try dsimp only [w0, w1, w2, w3]
        obtain ⟨p13, hp13, h⟩ := bindo h
        refine yr 50 [46, 49] rfl (ok_slice (kl := .i64) (kh := .i64) (s := (p9.1)) (l := (w64 (x1 + (Sl.len x2 : Int)))) (h := (Sl.len (p9.1) : Int)) · tu66 si70 (.tmp rfl) (.inr ⟨_, rfl, (.tmp rfl)⟩) (.inl ⟨rfl, rfl⟩) hp13) ?_
        refine yf 51 [0] rfl (ok_move · (.tmp rfl)) ?_
        refine yf 52 [1] rfl (ok_move · (.tmp rfl)) ?_
        obtain ⟨p14, hp14, h⟩ := bindo h
        refine yr 53 [51, 52] rfl (ok_slice (kl := .i64) (kh := .i64) (s := x0) (l := x1) (h := (Sl.len x0 : Int)) · tu66 si70 (.tmp rfl) (.inr ⟨_, rfl, (.tmp rfl)⟩) (.inl ⟨rfl, rfl⟩) hp14) ?_
        try dsimp only [w0, w1, w2, w3]
        obtain ⟨p15, hp15, h⟩ := bindo h
        obtain ⟨p16, hp16, h⟩ := bindo h
        refine ye 54 [50, 53] rfl (ok_copy (s := p13) (s1 := p14) el66 · rfl (.tmp rfl) (.tmp rfl) hp15 hp16) ?_
        refine x_rest rfl ?_
        refine hr_region_end ?_
        try dsimp only [w0, w1, w2, w3]
        refine q_seq rfl ?_
        refine q_region rfl rfl ?_
        refine qS 55 rfl (ok_move · (.tmp rfl)) ?_
        refine qS 6 rfl (ok_assign · (.tmp rfl)) ?_
        refine hr_region_end ?_
        try dsimp only [w0, w1, w2, w3]
        cases h
        exact q_ret rfl at_.at_ rfl (res1 rfl rfl) ⟨rfl, rfl⟩
      · refine q_cond_f rfl (.tmp rfl) (decide_eq_false hc7) ?_
        refine q_skipc rfl ?_
        refine q_seq rfl ?_
        refine q_region rfl rfl ?_
        refine qS 56 rfl (ok_move · (.tmp rfl)) ?_
        refine qS 57 rfl (ok_move · (.tmp rfl)) ?_
        refine qS 58 rfl (ok_move · (.tmp rfl)) ?_
        refine qS 59 rfl (ok_ibin · (.tmp rfl) (.tmp rfl) rfl) ?_
        try dsimp only [w0, w1, w2, w3]
        obtain ⟨p17, hp17, h⟩ := bindo h
        refine qS 60 rfl (ok_slice (kl := .i64) (kh := .i64) (s := x0) (l := 0) (h := (w64 ((Sl.len x0 : Int) + (Sl.len x2 : Int)))) · tu66 si70 (.tmp rfl) (.inl ⟨rfl, rfl⟩) (.inr ⟨_, rfl, (.tmp rfl)⟩) hp17) ?_
        refine qS 0 rfl (ok_assign · (.tmp rfl)) ?_
        refine hr_region_end ?_
        try dsimp only [w0, w1, w2, w3]
        refine q_seq rfl ?_
        refine q_seq rfl ?_
        refine q_region rfl rfl ?_
        refine qS 61 rfl (ok_move · (.tmp rfl)) ?_
        refine qS 62 rfl (ok_move · (.tmp rfl)) ?_
        refine qS 63 rfl (ok_move · (.tmp rfl)) ?_
        refine qS 64 rfl (ok_move · (.tmp rfl)) ?_
        try dsimp only [w0, w1, w2, w3]
        refine qS 65 rfl (ok_ibin · (.tmp rfl) (.tmp rfl) rfl) ?_
        obtain ⟨p18, hp18, h⟩ := bindo h
        refine qS 66 rfl (ok_slice (kl := .i64) (kh := .i64) (s := p17) (l := (w64 (x1 + (Sl.len x2 : Int)))) (h := (Sl.len p17 : Int)) · tu66 si70 (.tmp rfl) (.inr ⟨_, rfl, (.tmp rfl)⟩) (.inl ⟨rfl, rfl⟩) hp18) ?_
        obtain ⟨p19, hp19, h⟩ := bindo h
        refine qS 67 rfl (ok_overlaps (s1 := x2) (s2 := p18) · ext50 tu66 si70 (.tmp rfl) (.tmp rfl) hp19) ?_
        refine qS 68 rfl (ok_not · (.tmp rfl)) ?_
        refine hr_region_end ?_
        try dsimp only [w0, w1, w2, w3]
        rcases ifc h with ⟨hc20, h⟩ | ⟨hc20, h⟩
        · refine q_cond_t rfl (.tmp rfl) hc20 ?_
          refine q_seq rfl ?_
          refine x_start (cls := [0, 0, 0, 0, 1, 0, 0, 1, 2]) (rk := [0, 1, 2, 3, 4, 5, 6, 7, 8]) rfl (by kernel_rfl) ?_
          refine yf 69 [0] rfl (ok_move · (.tmp rfl)) ?_
          refine yf 70 [1] rfl (ok_move · (.tmp rfl)) ?_
          refine yf 71 [7] rfl (ok_move · (.tmp rfl)) ?_
          refine yf 72 [70, 71] rfl (ok_ibin · (.tmp rfl) (.tmp rfl) rfl) ?_
          try dsimp only [w0, w1, w2, w3]
          obtain ⟨p21, hp21, h⟩ := bindo h
          refine yr 73 [69, 72] rfl (ok_slice (kl := .i64) (kh := .i64) (s := p17) (l := (w64 (x1 + (Sl.len x2 : Int)))) (h := (Sl.len p17 : Int)) · tu66 si70 (.tmp rfl) (.inr ⟨_, rfl, (.tmp rfl)⟩) (.inl ⟨rfl, rfl⟩) hp21) ?_
          refine yf 74 [0] rfl (ok_move · (.tmp rfl)) ?_
          refine yf 75 [1] rfl (ok_move · (.tmp rfl)) ?_
          obtain ⟨p22, hp22, h⟩ := bindo h
          refine yr 76 [74, 75] rfl (ok_slice (kl := .i64) (kh := .i64) (s := p17) (l := x1) (h := (Sl.len p17 : Int)) · tu66 si70 (.tmp rfl) (.inr ⟨_, rfl, (.tmp rfl)⟩) (.inl ⟨rfl, rfl⟩) hp22) ?_
          try dsimp only [w0, w1, w2, w3]
          obtain ⟨p23, hp23, h⟩ := bindo h
          obtain ⟨p24, hp24, h⟩ := bindo h
          refine ye 77 [73, 76] rfl (ok_copy (s := p21) (s1 := p22) el66 · rfl (.tmp rfl) (.tmp rfl) hp23 hp24) ?_
          refine x_rest rfl ?_
          refine hr_region_end ?_
          try dsimp only [w0, w1, w2, w3]
          refine q_seq rfl ?_
          refine q_region rfl rfl ?_
          refine qS 78 rfl (ok_move · (.tmp rfl)) ?_
          refine qS 79 rfl (ok_move · (.tmp rfl)) ?_
          obtain ⟨p25, hp25, h⟩ := bindo h
          refine qS 80 rfl (ok_slice (kl := .i64) (kh := .i64) (s := p17) (l := x1) (h := (Sl.len p17 : Int)) · tu66 si70 (.tmp rfl) (.inr ⟨_, rfl, (.tmp rfl)⟩) (.inl ⟨rfl, rfl⟩) hp25) ?_
          refine qS 81 rfl (ok_move · (.tmp rfl)) ?_
          try dsimp only [w0, w1, w2, w3]
          obtain ⟨p26, hp26, h⟩ := bindo h
          obtain ⟨p27, hp27, h⟩ := bindo h
          refine qS 82 rfl (ok_copy (s := p25) (s1 := x2) el66 · rfl (.tmp rfl) (.tmp rfl) hp26 hp27) ?_
          refine hr_region_end ?_
          try dsimp only [w0, w1, w2, w3]
          refine q_seq rfl ?_
          refine q_region rfl rfl ?_
          refine qS 83 rfl (ok_move · (.tmp rfl)) ?_
          refine qS 6 rfl (ok_assign · (.tmp rfl)) ?_
          refine hr_region_end ?_
          try dsimp only [w0, w1, w2, w3]
          cases h
          exact q_ret rfl at_.at_ rfl (res1 rfl rfl) ⟨rfl, rfl⟩
        · refine q_cond_f rfl (.tmp rfl) (bfalse hc20) ?_
          refine q_skipc rfl ?_
          refine q_seq rfl ?_
          refine q_region rfl rfl ?_
          refine qS 84 rfl (ok_move · (.tmp rfl)) ?_
          refine qS 85 rfl (ok_move · (.tmp rfl)) ?_
          obtain ⟨p28, hp28, h⟩ := bindo h
          refine qS 86 rfl (ok_slice (kl := .i64) (kh := .i64) (s := p17) (l := (Sl.len x0 : Int)) (h := (Sl.len p17 : Int)) · tu66 si70 (.tmp rfl) (.inr ⟨_, rfl, (.tmp rfl)⟩) (.inl ⟨rfl, rfl⟩) hp28) ?_
          refine qS 87 rfl (ok_move · (.tmp rfl)) ?_
          try dsimp only [w0, w1, w2, w3]
          obtain ⟨p29, hp29, h⟩ := bindo h
          obtain ⟨p30, hp30, h⟩ := bindo h
          refine qS 88 rfl (ok_copy (s := p28) (s1 := x2) el66 · rfl (.tmp rfl) (.tmp rfl) hp29 hp30) ?_
          refine hr_region_end ?_
          try dsimp only [w0, w1, w2, w3]
          refine q_seq rfl ?_
          refine q_region rfl rfl ?_
          refine qS 89 rfl (ok_move · (.tmp rfl)) ?_
          refine qS 90 rfl (ok_move · (.tmp rfl)) ?_
          obtain ⟨p31, hp31, h⟩ := bindo h
          refine qS 91 rfl (ok_slice (kl := .i64) (kh := .i64) (s := p17) (l := x1) (h := (Sl.len p17 : Int)) · tu66 si70 (.tmp rfl) (.inr ⟨_, rfl, (.tmp rfl)⟩) (.inl ⟨rfl, rfl⟩) hp31) ?_
          refine qS 92 rfl (ok_move · (.tmp rfl)) ?_
          try dsimp only [w0, w1, w2, w3]
          obtain ⟨p32, hp32, h⟩ := bindo h
          refine q_call (dst := some 93) rfl (.func _) (.cons (.tmp rfl) (.cons (.tmp rfl) Evs.nil)) (HInv.static slices_rotateRight_book_entry_bool.at_ slices_rotateRight_book_entry_bool.body (slices_rotateRight_book_entry_bool.snd  hp32)) ?_
          rintro _ _ ⟨rfl, rfl⟩
          refine hr_region_end ?_
          try dsimp only [w0, w1, w2, w3]
          refine q_seq rfl ?_
          refine q_region rfl rfl ?_
          refine qS 94 rfl (ok_move · (.tmp rfl)) ?_
          refine qS 6 rfl (ok_assign · (.tmp rfl)) ?_
          refine hr_region_end ?_
          try dsimp only [w0, w1, w2, w3]
          cases h
          exact q_ret rfl at_.at_ rfl (res1 rfl rfl) ⟨rfl, rfl⟩
end
end slices_Insert_book_entry_bool_book_entry_bool
namespace slices_Insert_book_entry_bool_book_entry_bool_w
theorem at_ : FnAt Try.prog 32 Try.f32 := slices_Insert_book_entry_bool_book_entry_bool.at_
theorem body : Try.f32.body = some slices_Insert_book_entry_bool_book_entry_bool.c0 := slices_Insert_book_entry_bool_book_entry_bool.body
def f (x0 : Sl) (x1 : Int) (x2 : Sl) (S : HS) : Option ((Sl) × HS) := HS.ins S x0 x1 x2 2
theorem snd {base : Nat} {W0 : World} {β0 : Bt} {x0 : Sl} {x1 : Int} {x2 : Sl} {S : HS} {p : (Sl) × HS} (h : f x0 x1 x2 S = some p) : HCall Try.prog base W0 β0 32 [(Sl.hv x0), (.int .i64 x1), (Sl.hv x2)] S (fun v S1 => v = (Sl.hv p.1) ∧ S1 = p.2) :=
  ins_snd (rot := fun a b T => slices_rotateRight_book_entry_bool.f 0 a b T) (zr := [(.str []), (.bool false)]) (fun _ _ _ h => slices_Insert_book_entry_bool_book_entry_bool.snd (k := 0) h) h
end slices_Insert_book_entry_bool_book_entry_bool_w
namespace book_Book_bool_Put
theorem at_ : FnAt Try.prog 9 Try.f9 := ⟨Try.func9, by kernel_rfl⟩
noncomputable def d0 := (Try.f9.body).getD .skip
noncomputable def r1 := kR (kA d0)
noncomputable def r4 := kR (kA (kA (kB d0)))
noncomputable def r7 := kR (kA (kA (kB (kA (kB d0)))))
noncomputable def r11 := kR (kA (kB (kB d0)))
noncomputable def d12 := kB (kB (kB d0))
noncomputable def r15 := kR (kA (kA (kA d12)))
noncomputable def d16 := kB (kA (kA d12))
noncomputable def r17 := kR (kA d16)
noncomputable def r19 := kR (kA (kB d16))
noncomputable def r22 := kR (kA (kA (kB (kB d16))))
noncomputable def r24 := kR (kB (kB (kB d16)))
noncomputable def r26 := kR (kA (kB d12))
noncomputable def c25 : Code := .seq (.region 9 r26 false) .ret
noncomputable def c0 : Code := .seq (.region 0 r1 false) (.seq (.seq (.region 1 r4 false) (.cond (.tmp 10) (.seq (.region 2 r7 false) .ret) .skip)) (.seq (.region 3 r11 false) (.seq (.block 0 (.seq (.region 5 r15 false) (.cond (.tmp 30) (.region 6 r17 false) (.seq (.region 7 r19 true) (.cond (.tmp 41) (.seq (.region 8 r22 false) .ret) (.region 4 r24 false)))))) c25)))
theorem body : Try.f9.body = some c0 := by kernel_rfl
section
variable {base : Nat} {W0 : World} {β0 : Bt}
def J0 (D : Dp) (H : Hd) (k : Nat) (S : HS) : Option ((Int) × HS) :=
  some (0, S)
theorem J0_snd {D : Dp} {H : Hd} {k : Nat} (hD : DSound Try.prog base W0 D) (hH : HSound Try.prog base W0 β0 H)  {S : HS} {p : (Int) × HS} {g0 g1 g2 g3 g4 g5 g6 g7 g8 g9 g10 g11 g12 g13 g14 g15 g16 g17 g18 g19 g20 g21 g22 g23 g24 g25 g26 g27 g28 g29 g30 g31 g32 g33 g34 g35 g36 g37 g38 g39 g40 g41 g42 g43 g44 g45 g46 g47 g48 g49 g50 g51 : HV} (h : J0 D H k S = some p) : HRun Try.prog base W0 β0 9 none [.code c25] ⟨[g0, g1, g2, g3, g4, g5, g6, g7, g8, g9, g10, g11, g12, g13, g14, g15, g16, g17, g18, g19, g20, g21, g22, g23, g24, g25, g26, g27, g28, g29, g30, g31, g32, g33, g34, g35, g36, g37, g38, g39, g40, g41, g42, g43, g44, g45, g46, g47, g48, g49, g50, g51], []⟩ S (fun v S1 => v = (.int .i64 p.1) ∧ S1 = p.2) := by
  unfold J0 at h
  refine q_seq rfl ?_
  refine q_region rfl rfl ?_
  refine qS 6 rfl (ok_assign · (.int _ _)) ?_
  refine hr_region_end ?_
  try dsimp only [w0, w1, w2, w3]
  cases h
  exact q_ret rfl at_.at_ rfl (res1 rfl rfl) ⟨rfl, rfl⟩
def f (D : Dp) (H : Hd) (k : Nat) (x0 : (Option HA)) (x1 : (List UInt8)) (x2 : Bool) (S : HS) : Option ((Int) × HS) :=
  (if (Option.isNone x0) = true then
  some (1, S) else
  (Option.bind (book_Book_bool_at.f D H k x0 x1 S) fun p2 =>
  (if p2.1.2 = true then
  (Option.bind (x0) fun p4 =>
  (Option.bind (HS.ldSl p2.2 (HA.fld p4 1)) fun p5 =>
  (Option.bind (HS.idx p2.2 p5 p2.1.1 2) fun p6 =>
  (Option.bind (HS.sets p2.2 p6 [(.str x1), (.bool x2)]) fun p7 =>
  J0 D H k p7)))) else
  (Option.bind (x0) fun p8 =>
  (Option.bind (HS.ldSl p2.2 (HA.fld p8 1)) fun p9 =>
  (Option.bind (x0) fun p10 =>
  (Option.bind (HS.ldI p2.2 .i64 (HA.fld p10 0)) fun p11 =>
  (if (Sl.len p9 : Int) ≥ p11 then
  some (7, p2.2) else
  (Option.bind (x0) fun p13 =>
  (Option.bind (HS.ldSl p2.2 (HA.fld p13 1)) fun p14 =>
  (letv (HS.lit p2.2 [[(.str x1), (.bool x2)]] 2) fun p15 =>
  (Option.bind (slices_Insert_book_entry_bool_book_entry_bool_w.f p14 p2.1.1 (p15.1) (p15.2)) fun p16 =>
  (Option.bind (x0) fun p17 =>
  (Option.bind (HS.sets p16.2 (HA.fld p17 1) [(Sl.hv p16.1)]) fun p18 =>
  J0 D H k p18))))))))))))))
theorem snd {D : Dp} {H : Hd} {k : Nat} {x0 : (Option HA)} {x1 : (List UInt8)} {x2 : Bool} {S : HS} (hD : DSound Try.prog base W0 D) (hH : HSound Try.prog base W0 β0 H)  {p : (Int) × HS} (h : f D H k x0 x1 x2 S = some p) : HCall Try.prog base W0 β0 9 [(.ptr x0), (.str x1), (.bool x2)] S (fun v S1 => v = (.int .i64 p.1) ∧ S1 = p.2) := by
  unfold f at h
  refine HCall.of_run at_.at_ body ?_
  show HRun Try.prog base W0 β0 9 none [.code c0] ⟨[(.ptr x0), (.str x1), (.bool x2), τ, τ, τ, τ, τ, τ, τ, τ, τ, τ, τ, τ, τ, τ, τ, τ, τ, τ, τ, τ, τ, τ, τ, τ, τ, τ, τ, τ, τ, τ, τ, τ, τ, τ, τ, τ, τ, τ, τ, τ, τ, τ, τ, τ, τ, τ, τ, τ, τ], []⟩ S _
  refine q_seq rfl ?_
  refine q_region rfl rfl ?_
  refine qS 6 rfl (ok_assign · (.int _ _)) ?_
  refine hr_region_end ?_
  try dsimp only [w0, w1, w2, w3]
  refine q_seq rfl ?_
  refine q_seq rfl ?_
  refine q_region rfl rfl ?_
  refine qS 9 rfl (ok_move · (.tmp rfl)) ?_
  refine qS 10 rfl (ok_nil_ptr · tu23 (.tmp rfl) (.inl ⟨rfl, rfl⟩)) ?_
  refine hr_region_end ?_
  try dsimp only [w0, w1, w2, w3]
  rcases ifc h with ⟨hc1, h⟩ | ⟨hc1, h⟩
  · refine q_cond_t rfl (.tmp rfl) hc1 ?_
    refine q_seq rfl ?_
    refine q_region rfl rfl ?_
    refine qS 6 rfl (ok_assign · (.int _ _)) ?_
    refine hr_region_end ?_
    try dsimp only [w0, w1, w2, w3]
    cases h
    exact q_ret rfl at_.at_ rfl (res1 rfl rfl) ⟨rfl, rfl⟩
  · refine q_cond_f rfl (.tmp rfl) (bfalse hc1) ?_
    refine q_skipc rfl ?_
    refine q_seq rfl ?_
    refine q_region rfl rfl ?_
    refine qS 12 rfl (ok_move · (.tmp rfl)) ?_
    refine qS 13 rfl (ok_move · (.tmp rfl)) ?_
    obtain ⟨p2, hp2, h⟩ := bindo h
    refine q_call (dst := some 14) rfl (.func _) (.cons (.tmp rfl) (.cons (.tmp rfl) Evs.nil)) (HInv.static book_Book_bool_at.at_ book_Book_bool_at.body (book_Book_bool_at.snd hD hH hp2)) ?_
    rintro _ _ ⟨rfl, rfl⟩
    refine qS 11 rfl (ok_move · (.tmp rfl)) ?_
    try dsimp only [w0, w1, w2, w3]
    refine qS 15 rfl (ok_extract · (.tmp rfl) rfl) ?_
    refine qS 16 rfl (ok_extract · (.tmp rfl) rfl) ?_
    refine qS 7 rfl (ok_assign · (.tmp rfl)) ?_
    refine qS 8 rfl (ok_assign · (.tmp rfl)) ?_
    refine hr_region_end ?_
    try dsimp only [w0, w1, w2, w3]
    refine q_seq rfl ?_
    refine q_block rfl ?_
    refine q_seq rfl ?_
    refine q_region rfl rfl ?_
    refine qS 31 rfl (ok_move · (.tmp rfl)) ?_
    refine qS 30 rfl (ok_assign · (.tmp rfl)) ?_
    refine hr_region_end ?_
    try dsimp only [w0, w1, w2, w3]
    rcases ifc h with ⟨hc3, h⟩ | ⟨hc3, h⟩
    · refine q_cond_t rfl (.tmp rfl) hc3 ?_
      refine q_region rfl rfl ?_
      refine qS 32 rfl (ok_move · (.tmp rfl)) ?_
      obtain ⟨p4, hp4, h⟩ := bindo h
      refine qS 33 rfl (ok_nilCheck_p · (.tmp rfl) hp4) ?_
      refine qS 34 rfl (ok_fieldAddr_s · fi68_1 (by decide) (.tmp rfl) rfl) ?_
      obtain ⟨p5, hp5, h⟩ := bindo h
      refine qS 35 rfl (ok_load_s · sc66 (.tmp rfl) rfl (ldSl_out hp5)) ?_
      try dsimp only [w0, w1, w2, w3]
      refine qS 36 rfl (ok_move · (.tmp rfl)) ?_
      refine qS 37 rfl (ok_move · (.tmp rfl)) ?_
      refine qS 38 rfl (ok_move · (.tmp rfl)) ?_
      refine qS 39 rfl (ok_build (is := [0, 1]) (xs := [(.tmp 37), (.tmp 38)]) (r := [(.str x1), (.bool x2)]) st70 · rfl rfl (.cons (.tmp rfl) (.cons (.tmp rfl) Evs.nil)) rfl) ?_
      try dsimp only [w0, w1, w2, w3]
      obtain ⟨p6, hp6, h⟩ := bindo h
      refine qS 40 rfl (ok_indexAddr (s := p5) · tu66 sz70 (.tmp rfl) (.tmp rfl) hp6) ?_
      obtain ⟨p7, hp7, h⟩ := bindo h
      refine qN rfl (ok_store_s (v := (.agg [(.str x1), (.bool x2)])) · sz70 (.tmp rfl) rfl (.tmp rfl) rfl hp7) ?_
      refine hr_region_end ?_
      try dsimp only [w0, w1, w2, w3]
      refine hr_inBlock ?_
      try dsimp only [w0, w1, w2, w3]
      exact J0_snd hD hH h
    · refine q_cond_f rfl (.tmp rfl) (bfalse hc3) ?_
      refine q_seq rfl ?_
      refine x_start (cls := [0, 0, 0, 1, 0, 0, 0, 0, 1, 0, 0]) (rk := [0, 1, 2, 3, 4, 5, 6, 7, 8, 9, 10]) rfl (by kernel_rfl) ?_
      refine yf 42 [0] rfl (ok_move · (.tmp rfl)) ?_
      obtain ⟨p8, hp8, h⟩ := bindo h
      refine yf 43 [42] rfl (ok_nilCheck_p · (.tmp rfl) hp8) ?_
      refine yf 44 [43] rfl (ok_fieldAddr_s · fi68_1 (by decide) (.tmp rfl) rfl) ?_
      obtain ⟨p9, hp9, h⟩ := bindo h
      refine yr 45 [44] rfl (ok_load_s · sc66 (.tmp rfl) rfl (ldSl_out hp9)) ?_
      try dsimp only [w0, w1, w2, w3]
      refine yf 46 [45] rfl (ok_len_sl (q := Sl.a p9) (n := Sl.len p9) (z := Sl.cap p9) · rfl tu66 (.tmp rfl)) ?_
      refine yf 47 [0] rfl (ok_move · (.tmp rfl)) ?_
      obtain ⟨p10, hp10, h⟩ := bindo h
      refine yf 48 [47] rfl (ok_nilCheck_p · (.tmp rfl) hp10) ?_
      refine yf 49 [48] rfl (ok_fieldAddr_s · fi68_0 (by decide) (.tmp rfl) rfl) ?_
      try dsimp only [w0, w1, w2, w3]
      obtain ⟨p11, hp11, h⟩ := bindo h
      refine yr 50 [49] rfl (ok_load_s · sc3 (.tmp rfl) rfl (ldI_out hp11)) ?_
      refine yf 51 [46, 50] rfl (ok_ibin · (.tmp rfl) (.tmp rfl) rfl) ?_
      refine yf 41 [51] rfl (ok_assign · (.tmp rfl)) ?_
      refine x_rest rfl ?_
      refine hr_region_end ?_
      try dsimp only [w0, w1, w2, w3]
      rcases ifc h with ⟨hc12, h⟩ | ⟨hc12, h⟩
      · refine q_cond_t rfl (.tmp rfl) (decide_eq_true hc12) ?_
        refine q_seq rfl ?_
        refine q_region rfl rfl ?_
        refine qS 6 rfl (ok_assign · (.int _ _)) ?_
        refine hr_region_end ?_
        try dsimp only [w0, w1, w2, w3]
        cases h
        exact q_ret rfl at_.at_ rfl (res1 rfl rfl) ⟨rfl, rfl⟩
      · refine q_cond_f rfl (.tmp rfl) (decide_eq_false hc12) ?_
        refine q_region rfl rfl ?_
        refine qS 17 rfl (ok_move · (.tmp rfl)) ?_
        refine qS 18 rfl (ok_move · (.tmp rfl)) ?_
        obtain ⟨p13, hp13, h⟩ := bindo h
        refine qS 19 rfl (ok_nilCheck_p · (.tmp rfl) hp13) ?_
        refine qS 20 rfl (ok_fieldAddr_s · fi68_1 (by decide) (.tmp rfl) rfl) ?_
        try dsimp only [w0, w1, w2, w3]
        obtain ⟨p14, hp14, h⟩ := bindo h
        refine qS 21 rfl (ok_load_s · sc66 (.tmp rfl) rfl (ldSl_out hp14)) ?_
        refine qS 22 rfl (ok_move · (.tmp rfl)) ?_
        refine qS 23 rfl (ok_move · (.tmp rfl)) ?_
        refine qS 24 rfl (ok_move · (.tmp rfl)) ?_
        try dsimp only [w0, w1, w2, w3]
        refine qS 25 rfl (ok_build (is := [0, 1]) (xs := [(.tmp 23), (.tmp 24)]) (r := [(.str x1), (.bool x2)]) st70 · rfl rfl (.cons (.tmp rfl) (.cons (.tmp rfl) Evs.nil)) rfl) ?_
        obtain ⟨p15, hp15, h⟩ := leto h
        refine qS 26 rfl (ok_buildSlice_s (xs := [(.tmp 25)]) el66 · rfl rfl (by decide) (.cons (.tmp rfl) Evs.nil) rfl rfl hp15) ?_
        obtain ⟨p16, hp16, h⟩ := bindo h
        refine q_call (dst := some 27) rfl (.func _) (.cons (.tmp rfl) (.cons (.tmp rfl) (.cons (.tmp rfl) Evs.nil))) (HInv.static slices_Insert_book_entry_bool_book_entry_bool_w.at_ slices_Insert_book_entry_bool_book_entry_bool_w.body (slices_Insert_book_entry_bool_book_entry_bool_w.snd  hp16)) ?_
        rintro _ _ ⟨rfl, rfl⟩
        obtain ⟨p17, hp17, h⟩ := bindo h
        refine qS 28 rfl (ok_nilCheck_p · (.tmp rfl) hp17) ?_
        try dsimp only [w0, w1, w2, w3]
        refine qS 29 rfl (ok_fieldAddr_s · fi68_1 (by decide) (.tmp rfl) rfl) ?_
        obtain ⟨p18, hp18, h⟩ := bindo h
        refine qN rfl (ok_store_s (v := (Sl.hv p16.1)) · sz66 (.tmp rfl) rfl (.tmp rfl) rfl hp18) ?_
        refine hr_region_end ?_
        try dsimp only [w0, w1, w2, w3]
        refine hr_inBlock ?_
        try dsimp only [w0, w1, w2, w3]
        exact J0_snd hD hH h
end
end book_Book_bool_Put
namespace book_Book_bool_Len
theorem at_ : FnAt Try.prog 11 Try.f11 := ⟨Try.func11, by kernel_rfl⟩
noncomputable def d0 := (Try.f11.body).getD .skip
noncomputable def r1 := kR (kA d0)
noncomputable def r4 := kR (kA (kA (kB d0)))
noncomputable def r7 := kR (kA (kA (kB (kA (kB d0)))))
noncomputable def r11 := kR (kA (kB (kB d0)))
noncomputable def c0 : Code := .seq (.region 0 r1 false) (.seq (.seq (.region 1 r4 false) (.cond (.tmp 4) (.seq (.region 2 r7 false) .ret) .skip)) (.seq (.region 3 r11 false) .ret))
theorem body : Try.f11.body = some c0 := by kernel_rfl
section
variable {base : Nat} {W0 : World} {β0 : Bt}
def f (x0 : (Option HA)) (S : HS) : Option ((Int) × HS) :=
  (if (Option.isNone x0) = true then
  some (0, S) else
  (Option.bind (x0) fun p2 =>
  (Option.bind (HS.ldSl S (HA.fld p2 1)) fun p3 =>
  some ((Sl.len p3 : Int), S))))
theorem snd {x0 : (Option HA)} {S : HS}  {p : (Int) × HS} (h : f x0 S = some p) : HCall Try.prog base W0 β0 11 [(.ptr x0)] S (fun v S1 => v = (.int .i64 p.1) ∧ S1 = p.2) := by
  unfold f at h
  refine HCall.of_run at_.at_ body ?_
  show HRun Try.prog base W0 β0 11 none [.code c0] ⟨[(.ptr x0), τ, τ, τ, τ, τ, τ, τ, τ, τ], []⟩ S _
  refine q_seq rfl ?_
  refine q_region rfl rfl ?_
  refine qS 2 rfl (ok_assign · (.int _ _)) ?_
  refine hr_region_end ?_
  try dsimp only [w0, w1, w2, w3]
  refine q_seq rfl ?_
  refine q_seq rfl ?_
  refine q_region rfl rfl ?_
  refine qS 3 rfl (ok_move · (.tmp rfl)) ?_
  refine qS 4 rfl (ok_nil_ptr · tu23 (.tmp rfl) (.inl ⟨rfl, rfl⟩)) ?_
  refine hr_region_end ?_
  try dsimp only [w0, w1, w2, w3]
  rcases ifc h with ⟨hc1, h⟩ | ⟨hc1, h⟩
  · refine q_cond_t rfl (.tmp rfl) hc1 ?_
    refine q_seq rfl ?_
    refine q_region rfl rfl ?_
    refine qS 2 rfl (ok_assign · (.int _ _)) ?_
    refine hr_region_end ?_
    try dsimp only [w0, w1, w2, w3]
    cases h
    exact q_ret rfl at_.at_ rfl (res1 rfl rfl) ⟨rfl, rfl⟩
  · refine q_cond_f rfl (.tmp rfl) (bfalse hc1) ?_
    refine q_skipc rfl ?_
    refine q_seq rfl ?_
    refine q_region rfl rfl ?_
    refine qS 5 rfl (ok_move · (.tmp rfl)) ?_
    obtain ⟨p2, hp2, h⟩ := bindo h
    refine qS 6 rfl (ok_nilCheck_p · (.tmp rfl) hp2) ?_
    refine qS 7 rfl (ok_fieldAddr_s · fi68_1 (by decide) (.tmp rfl) rfl) ?_
    obtain ⟨p3, hp3, h⟩ := bindo h
    refine qS 8 rfl (ok_load_s · sc66 (.tmp rfl) rfl (ldSl_out hp3)) ?_
    try dsimp only [w0, w1, w2, w3]
    refine qS 9 rfl (ok_len_sl (q := Sl.a p3) (n := Sl.len p3) (z := Sl.cap p3) · rfl tu66 (.tmp rfl)) ?_
    refine qS 2 rfl (ok_assign · (.tmp rfl)) ?_
    refine hr_region_end ?_
    try dsimp only [w0, w1, w2, w3]
    cases h
    exact q_ret rfl at_.at_ rfl (res1 rfl rfl) ⟨rfl, rfl⟩
end
end book_Book_bool_Len
namespace slices_Delete_book_entry_bool_book_entry_bool
theorem at_ : FnAt Try.prog 33 Try.f33 := ⟨Try.func33, by kernel_rfl⟩
noncomputable def d0 := (Try.f33.body).getD .skip
noncomputable def r1 := kR (kA d0)
noncomputable def r3 := kR (kA (kB d0))
noncomputable def r6 := kR (kA (kA (kB (kB d0))))
noncomputable def r9 := kR (kA (kA (kB (kA (kB (kB d0))))))
noncomputable def d12 := kB (kB (kB d0))
noncomputable def r13 := kR (kA d12)
noncomputable def r15 := kR (kA (kB d12))
noncomputable def r17 := kR (kA (kB (kB d12)))
noncomputable def r19 := kR (kA (kB (kB (kB d12))))
noncomputable def c0 : Code := .seq (.region 0 r1 false) (.seq (.region 1 r3 false) (.seq (.seq (.region 2 r6 false) (.cond (.tmp 16) (.seq (.region 3 r9 false) .ret) .skip)) (.seq (.region 4 r13 false) (.seq (.region 5 r15 true) (.seq (.region 6 r17 false) (.seq (.region 7 r19 false) .ret))))))
theorem body : Try.f33.body = some c0 := by kernel_rfl
section
variable {base : Nat} {W0 : World} {β0 : Bt}
def f (x0 : Sl) (x1 : Int) (x2 : Int) (S : HS) : Option ((Sl) × HS) :=
  (Option.bind (HS.cut3 S x0 x1 x2 (Sl.len x0 : Int) 2) fun p1 =>
  (if x1 = x2 then
  some (x0, S) else
  (Option.bind (HS.cut S x0 0 x1 2) fun p3 =>
  (Option.bind (HS.cut S x0 x2 (Sl.len x0 : Int) 2) fun p4 =>
  (Option.bind (HS.rows S p4 2) fun p5 =>
  (Option.bind (HS.app S p3 p5 2) fun p6 =>
  (Option.bind (HS.cut (p6.2) (p6.1) (Sl.len (p6.1) : Int) (Sl.len x0 : Int) 2) fun p7 =>
  (Option.bind (HS.over (p6.2) p7 (List.replicate (Sl.len p7) [(.str []), (.bool false)]) 2) fun p8 =>
  some ((p6.1), p8)))))))))
theorem snd {x0 : Sl} {x1 : Int} {x2 : Int} {S : HS}  {p : (Sl) × HS} (h : f x0 x1 x2 S = some p) : HCall Try.prog base W0 β0 33 [(Sl.hv x0), (.int .i64 x1), (.int .i64 x2)] S (fun v S1 => v = (Sl.hv p.1) ∧ S1 = p.2) := by
  unfold f at h
  refine HCall.of_run at_.at_ body ?_
  show HRun Try.prog base W0 β0 33 none [.code c0] ⟨[(Sl.hv x0), (.int .i64 x1), (.int .i64 x2), τ, τ, τ, τ, τ, τ, τ, τ, τ, τ, τ, τ, τ, τ, τ, τ, τ, τ, τ, τ, τ, τ, τ, τ, τ, τ, τ, τ, τ, τ], []⟩ S _
  refine q_seq rfl ?_
  refine q_region rfl rfl ?_
  refine qS 6 rfl (ok_assign · (.const fun _ => .slNil none)) ?_
  refine hr_region_end ?_
  try dsimp only [w0, w1, w2, w3]
  refine q_seq rfl ?_
  refine q_region rfl rfl ?_
  refine qS 8 rfl (ok_move · (.tmp rfl)) ?_
  refine qS 9 rfl (ok_move · (.tmp rfl)) ?_
  refine qS 10 rfl (ok_move · (.tmp rfl)) ?_
  refine qS 11 rfl (ok_move · (.tmp rfl)) ?_
  try dsimp only [w0, w1, w2, w3]
  refine qS 12 rfl (ok_len_sl (q := Sl.a x0) (n := Sl.len x0) (z := Sl.cap x0) · rfl tu66 (.tmp rfl)) ?_
  obtain ⟨p1, hp1, h⟩ := bindo h
  refine qS 13 rfl (ok_slice3 (kl := .i64) (kh := .i64) (s := x0) (l := x1) (h := x2) · tu66 si70 (.tmp rfl) (.inr ⟨_, rfl, (.tmp rfl)⟩) (.inr ⟨_, rfl, (.tmp rfl)⟩) (.tmp rfl) hp1) ?_
  refine hr_region_end ?_
  try dsimp only [w0, w1, w2, w3]
  refine q_seq rfl ?_
  refine q_seq rfl ?_
  refine q_region rfl rfl ?_
  refine qS 14 rfl (ok_move · (.tmp rfl)) ?_
  refine qS 15 rfl (ok_move · (.tmp rfl)) ?_
  refine qS 16 rfl (ok_ibin · (.tmp rfl) (.tmp rfl) rfl) ?_
  refine hr_region_end ?_
  try dsimp only [w0, w1, w2, w3]
  rcases ifc h with ⟨hc2, h⟩ | ⟨hc2, h⟩
  · refine q_cond_t rfl (.tmp rfl) (decide_eq_true hc2) ?_
    refine q_seq rfl ?_
    refine q_region rfl rfl ?_
    refine qS 17 rfl (ok_move · (.tmp rfl)) ?_
    refine qS 6 rfl (ok_assign · (.tmp rfl)) ?_
    refine hr_region_end ?_
    try dsimp only [w0, w1, w2, w3]
    cases h
    exact q_ret rfl at_.at_ rfl (res1 rfl rfl) ⟨rfl, rfl⟩
  · refine q_cond_f rfl (.tmp rfl) (decide_eq_false hc2) ?_
    refine q_skipc rfl ?_
    refine q_seq rfl ?_
    refine q_region rfl rfl ?_
    refine qS 18 rfl (ok_move · (.tmp rfl)) ?_
    refine qS 19 rfl (ok_len_sl (q := Sl.a x0) (n := Sl.len x0) (z := Sl.cap x0) · rfl tu66 (.tmp rfl)) ?_
    refine qS 7 rfl (ok_assign · (.tmp rfl)) ?_
    refine hr_region_end ?_
    try dsimp only [w0, w1, w2, w3]
    refine q_seq rfl ?_
    refine x_start (cls := [0, 0, 1, 0, 0, 1, 2, 0]) (rk := [0, 1, 2, 3, 4, 5, 6, 7]) rfl (by kernel_rfl) ?_
    refine yf 20 [0] rfl (ok_move · (.tmp rfl)) ?_
    refine yf 21 [1] rfl (ok_move · (.tmp rfl)) ?_
    obtain ⟨p3, hp3, h⟩ := bindo h
    refine yr 22 [20, 21] rfl (ok_slice (kl := .i64) (kh := .i64) (s := x0) (l := 0) (h := x1) · tu66 si70 (.tmp rfl) (.inl ⟨rfl, rfl⟩) (.inr ⟨_, rfl, (.tmp rfl)⟩) hp3) ?_
    refine yf 23 [0] rfl (ok_move · (.tmp rfl)) ?_
    try dsimp only [w0, w1, w2, w3]
    refine yf 24 [2] rfl (ok_move · (.tmp rfl)) ?_
    obtain ⟨p4, hp4, h⟩ := bindo h
    refine yr 25 [23, 24] rfl (ok_slice (kl := .i64) (kh := .i64) (s := x0) (l := x2) (h := (Sl.len x0 : Int)) · tu66 si70 (.tmp rfl) (.inr ⟨_, rfl, (.tmp rfl)⟩) (.inl ⟨rfl, rfl⟩) hp4) ?_
    obtain ⟨p5, hp5, h⟩ := bindo h
    obtain ⟨p6, hp6, h⟩ := bindo h
    refine ye 26 [22, 25] rfl (ok_append (s := p3) (s1 := p4) el66 · rfl rfl ⟨_, tu66⟩ (.tmp rfl) (.tmp rfl) hp5 hp6) ?_
    refine yf 0 [26] rfl (ok_assign · (.tmp rfl)) ?_
    refine x_rest rfl ?_
    refine hr_region_end ?_
    try dsimp only [w0, w1, w2, w3]
    refine q_seq rfl ?_
    refine q_region rfl rfl ?_
    refine qS 27 rfl (ok_move · (.tmp rfl)) ?_
    refine qS 28 rfl (ok_move · (.tmp rfl)) ?_
    refine qS 29 rfl (ok_len_sl (q := Sl.a (p6.1)) (n := Sl.len (p6.1)) (z := Sl.cap (p6.1)) · rfl tu66 (.tmp rfl)) ?_
    refine qS 30 rfl (ok_move · (.tmp rfl)) ?_
    try dsimp only [w0, w1, w2, w3]
    obtain ⟨p7, hp7, h⟩ := bindo h
    refine qS 31 rfl (ok_slice (kl := .i64) (kh := .i64) (s := (p6.1)) (l := (Sl.len (p6.1) : Int)) (h := (Sl.len x0 : Int)) · tu66 si70 (.tmp rfl) (.inr ⟨_, rfl, (.tmp rfl)⟩) (.inr ⟨_, rfl, (.tmp rfl)⟩) hp7) ?_
    obtain ⟨p8, hp8, h⟩ := bindo h
    refine qN rfl (ok_clear (s := p7) el66 · rfl (.tmp rfl) hp8) ?_
    refine hr_region_end ?_
    try dsimp only [w0, w1, w2, w3]
    refine q_seq rfl ?_
    refine q_region rfl rfl ?_
    refine qS 32 rfl (ok_move · (.tmp rfl)) ?_
    refine qS 6 rfl (ok_assign · (.tmp rfl)) ?_
    refine hr_region_end ?_
    try dsimp only [w0, w1, w2, w3]
    cases h
    exact q_ret rfl at_.at_ rfl (res1 rfl rfl) ⟨rfl, rfl⟩
end
end slices_Delete_book_entry_bool_book_entry_bool
namespace slices_Delete_book_entry_bool_book_entry_bool_w
theorem at_ : FnAt Try.prog 33 Try.f33 := slices_Delete_book_entry_bool_book_entry_bool.at_
theorem body : Try.f33.body = some slices_Delete_book_entry_bool_book_entry_bool.c0 := slices_Delete_book_entry_bool_book_entry_bool.body
def f (x0 : Sl) (x1 : Int) (x2 : Int) (S : HS) : Option ((Sl) × HS) := HS.del S x0 x1 x2 2
theorem snd {base : Nat} {W0 : World} {β0 : Bt} {x0 : Sl} {x1 x2 : Int} {S : HS} {p : (Sl) × HS} (h : f x0 x1 x2 S = some p) : HCall Try.prog base W0 β0 33 [(Sl.hv x0), (.int .i64 x1), (.int .i64 x2)] S (fun v S1 => v = (Sl.hv p.1) ∧ S1 = p.2) :=
  del_snd (zr := [(.str []), (.bool false)]) (fun _ _ _ h => slices_Delete_book_entry_bool_book_entry_bool.snd h) h
end slices_Delete_book_entry_bool_book_entry_bool_w
namespace book_Book_bool_Delete
theorem at_ : FnAt Try.prog 12 Try.f12 := ⟨Try.func12, by kernel_rfl⟩
noncomputable def d0 := (Try.f12.body).getD .skip
noncomputable def r1 := kR (kA d0)
noncomputable def r3 := kR (kA (kB d0))
noncomputable def r6 := kR (kA (kA (kB (kB d0))))
noncomputable def r8 := kR (kA (kB (kA (kB (kB d0)))))
noncomputable def r11 := kR (kA (kB (kB (kB d0))))
noncomputable def c10 : Code := .seq (.region 4 r11 false) .ret
noncomputable def c0 : Code := .seq (.region 0 r1 false) (.seq (.region 1 r3 false) (.seq (.seq (.region 2 r6 false) (.cond (.tmp 13) (.region 3 r8 false) .skip)) c10))
theorem body : Try.f12.body = some c0 := by kernel_rfl
section
variable {base : Nat} {W0 : World} {β0 : Bt}
def J0 (D : Dp) (H : Hd) (k : Nat) (y6 : Bool) (S : HS) : Option ((Bool) × HS) :=
  some (y6, S)
theorem J0_snd {D : Dp} {H : Hd} {k : Nat} (hD : DSound Try.prog base W0 D) (hH : HSound Try.prog base W0 β0 H)  {y6 : Bool} {S : HS} {p : (Bool) × HS} {g0 g1 g2 g3 g4 g5 g7 g8 g9 g10 g11 g12 g13 g14 g15 g16 g17 g18 g19 g20 g21 g22 g23 g24 g25 : HV} (h : J0 D H k y6 S = some p) : HRun Try.prog base W0 β0 12 none [.code c10] ⟨[g0, g1, g2, g3, g4, g5, (.bool y6), g7, g8, g9, g10, g11, g12, g13, g14, g15, g16, g17, g18, g19, g20, g21, g22, g23, g24, g25], []⟩ S (fun v S1 => v = (.bool p.1) ∧ S1 = p.2) := by
  unfold J0 at h
  refine q_seq rfl ?_
  refine q_region rfl rfl ?_
  refine qS 25 rfl (ok_move · (.tmp rfl)) ?_
  refine qS 4 rfl (ok_assign · (.tmp rfl)) ?_
  refine hr_region_end ?_
  try dsimp only [w0, w1, w2, w3]
  cases h
  exact q_ret rfl at_.at_ rfl (res1 rfl rfl) ⟨rfl, rfl⟩
def f (D : Dp) (H : Hd) (k : Nat) (x0 : (Option HA)) (x1 : (List UInt8)) (S : HS) : Option ((Bool) × HS) :=
  (Option.bind (book_Book_bool_at.f D H k x0 x1 S) fun p1 =>
  (if p1.1.2 = true then
  (Option.bind (x0) fun p3 =>
  (Option.bind (HS.ldSl p1.2 (HA.fld p3 1)) fun p4 =>
  (Option.bind (slices_Delete_book_entry_bool_book_entry_bool_w.f p4 p1.1.1 (w64 (p1.1.1 + 1)) p1.2) fun p5 =>
  (Option.bind (x0) fun p6 =>
  (Option.bind (HS.sets p5.2 (HA.fld p6 1) [(Sl.hv p5.1)]) fun p7 =>
  J0 D H k p1.1.2 p7))))) else
  J0 D H k p1.1.2 p1.2))
theorem snd {D : Dp} {H : Hd} {k : Nat} {x0 : (Option HA)} {x1 : (List UInt8)} {S : HS} (hD : DSound Try.prog base W0 D) (hH : HSound Try.prog base W0 β0 H)  {p : (Bool) × HS} (h : f D H k x0 x1 S = some p) : HCall Try.prog base W0 β0 12 [(.ptr x0), (.str x1)] S (fun v S1 => v = (.bool p.1) ∧ S1 = p.2) := by
  unfold f at h
  refine HCall.of_run at_.at_ body ?_
  show HRun Try.prog base W0 β0 12 none [.code c0] ⟨[(.ptr x0), (.str x1), τ, τ, τ, τ, τ, τ, τ, τ, τ, τ, τ, τ, τ, τ, τ, τ, τ, τ, τ, τ, τ, τ, τ, τ], []⟩ S _
  refine q_seq rfl ?_
  refine q_region rfl rfl ?_
  refine qS 4 rfl (ok_assign · (.bool _)) ?_
  refine hr_region_end ?_
  try dsimp only [w0, w1, w2, w3]
  refine q_seq rfl ?_
  refine q_region rfl rfl ?_
  refine qS 8 rfl (ok_move · (.tmp rfl)) ?_
  refine qS 9 rfl (ok_move · (.tmp rfl)) ?_
  obtain ⟨p1, hp1, h⟩ := bindo h
  refine q_call (dst := some 10) rfl (.func _) (.cons (.tmp rfl) (.cons (.tmp rfl) Evs.nil)) (HInv.static book_Book_bool_at.at_ book_Book_bool_at.body (book_Book_bool_at.snd hD hH hp1)) ?_
  rintro _ _ ⟨rfl, rfl⟩
  refine qS 7 rfl (ok_move · (.tmp rfl)) ?_
  try dsimp only [w0, w1, w2, w3]
  refine qS 11 rfl (ok_extract · (.tmp rfl) rfl) ?_
  refine qS 12 rfl (ok_extract · (.tmp rfl) rfl) ?_
  refine qS 5 rfl (ok_assign · (.tmp rfl)) ?_
  refine qS 6 rfl (ok_assign · (.tmp rfl)) ?_
  refine hr_region_end ?_
  try dsimp only [w0, w1, w2, w3]
  refine q_seq rfl ?_
  refine q_seq rfl ?_
  refine q_region rfl rfl ?_
  refine qS 13 rfl (ok_move · (.tmp rfl)) ?_
  refine hr_region_end ?_
  try dsimp only [w0, w1, w2, w3]
  rcases ifc h with ⟨hc2, h⟩ | ⟨hc2, h⟩
  · refine q_cond_t rfl (.tmp rfl) hc2 ?_
    refine q_region rfl rfl ?_
    refine qS 14 rfl (ok_move · (.tmp rfl)) ?_
    refine qS 15 rfl (ok_move · (.tmp rfl)) ?_
    obtain ⟨p3, hp3, h⟩ := bindo h
    refine qS 16 rfl (ok_nilCheck_p · (.tmp rfl) hp3) ?_
    refine qS 17 rfl (ok_fieldAddr_s · fi68_1 (by decide) (.tmp rfl) rfl) ?_
    try dsimp only [w0, w1, w2, w3]
    obtain ⟨p4, hp4, h⟩ := bindo h
    refine qS 18 rfl (ok_load_s · sc66 (.tmp rfl) rfl (ldSl_out hp4)) ?_
    refine qS 19 rfl (ok_move · (.tmp rfl)) ?_
    refine qS 20 rfl (ok_move · (.tmp rfl)) ?_
    refine qS 21 rfl (ok_ibin · (.tmp rfl) (.int _ _) rfl) ?_
    try dsimp only [w0, w1, w2, w3]
    obtain ⟨p5, hp5, h⟩ := bindo h
    refine q_call (dst := some 22) rfl (.func _) (.cons (.tmp rfl) (.cons (.tmp rfl) (.cons (.tmp rfl) Evs.nil))) (HInv.static slices_Delete_book_entry_bool_book_entry_bool_w.at_ slices_Delete_book_entry_bool_book_entry_bool_w.body (slices_Delete_book_entry_bool_book_entry_bool_w.snd  hp5)) ?_
    rintro _ _ ⟨rfl, rfl⟩
    obtain ⟨p6, hp6, h⟩ := bindo h
    refine qS 23 rfl (ok_nilCheck_p · (.tmp rfl) hp6) ?_
    refine qS 24 rfl (ok_fieldAddr_s · fi68_1 (by decide) (.tmp rfl) rfl) ?_
    obtain ⟨p7, hp7, h⟩ := bindo h
    refine qN rfl (ok_store_s (v := (Sl.hv p5.1)) · sz66 (.tmp rfl) rfl (.tmp rfl) rfl hp7) ?_
    refine hr_region_end ?_
    try dsimp only [w0, w1, w2, w3]
    try dsimp only [w0, w1, w2, w3]
    exact J0_snd hD hH h
  · refine q_cond_f rfl (.tmp rfl) (bfalse hc2) ?_
    refine q_skipc rfl ?_
    try dsimp only [w0, w1, w2, w3]
    exact J0_snd hD hH h
end
end book_Book_bool_Delete
end Go.Proofs.Ytlfdaflngmkldaa.X
