/- Functions of the program, each as a Lean function over the layer HL: a call answers what the Lean function answers, where it answers. -/
import Derived.Test.YtpcdkecglgokoaaProg
import Derived.Test.YtpcdkecglgokoaaHLq
namespace Go.Proofs.Ytpcdkecglgokoaa.X
open Go.Proofs.Ytpcdkecglgokoaa.HL
set_option linter.unusedVariables false
set_option linter.unusedSimpArgs false
set_option maxRecDepth 20000
set_option maxHeartbeats 4000000
theorem ext43 : ExtAt Try.prog 43 Extern.BytealgIndexByte.indexByte := ⟨Try.f43, Try.func43, by kernel_rfl, by kernel_rfl, by kernel_rfl, by kernel_rfl⟩
theorem tu3 : Try.prog.underlying 3 = some (.int .i64) := by kernel_rfl
theorem tu5 : Try.prog.underlying 5 = some (.int .u8) := by kernel_rfl
theorem za34 : (Try.prog.info? 34).map (·.zero) = some (some (.agg (Array.replicate 256 (.int .u16 0)))) := by kernel_rfl
theorem ta34 : Try.prog.underlying 34 = some (.array 256 30) := by kernel_rfl
theorem sz30 : ∃ q, Try.prog.info? 30 = some q ∧ q.size = 1 := size_mk' (by kernel_rfl)
theorem sc30 : Scalar Try.prog 30 := ⟨(.int .u16), by kernel_rfl, trivial⟩
theorem ia34 : IsAgg Try.prog 34 256 := isAgg_mk2 (by kernel_rfl) (by kernel_rfl)
theorem sz34 : ∃ q, Try.prog.info? 34 = some q ∧ q.size = 256 := size_mk' (by kernel_rfl)
theorem tu9 : Try.prog.underlying 9 = some .string := by kernel_rfl
theorem fi39_1 : fieldInfo Try.prog 39 1 = some (1, 37, 1) := by kernel_rfl
theorem sc37 : Scalar Try.prog 37 := ⟨(.slice 5), by kernel_rfl, trivial⟩
theorem tu37 : Try.prog.underlying 37 = some (.slice 5) := by kernel_rfl
theorem fi39_0 : fieldInfo Try.prog 39 0 = some (0, 36, 1) := by kernel_rfl
theorem sc36 : Scalar Try.prog 36 := ⟨(.pointer 39), by kernel_rfl, trivial⟩
theorem tu36 : Try.prog.underlying 36 = some (.pointer 39) := by kernel_rfl
theorem nz39 : (Try.prog.info? 39).map (fun i => decide (i.size ≠ 0)) = some true := by kernel_rfl
theorem tu48 : Try.prog.underlying 48 = some .unsafePointer := by kernel_rfl
theorem ext42 : ExtAt Try.prog 42 Extern.AbiNoEscape.same := ⟨Try.f42, Try.func42, by kernel_rfl, by kernel_rfl, by kernel_rfl, by kernel_rfl⟩
theorem ih39 : (Try.prog.info? 39).isSome = true := by kernel_rfl
theorem cz39 : 2 = Try.prog.cellsOf 39 := by kernel_rfl
theorem sz36 : ∃ q, Try.prog.info? 36 = some q ∧ q.size = 1 := size_mk' (by kernel_rfl)
theorem el37 : ElemAt Try.prog 37 5 1 [(.int .u8 0)] := elemAt_mk (zv := (.int .u8 0)) (by_ := 1) (by kernel_rfl) (by kernel_rfl) (by decide) (fun β => VRels.cons (.int _ _) (VRels.nil β)) rfl (by decide) rfl
theorem sz37 : ∃ q, Try.prog.info? 37 = some q ∧ q.size = 1 := size_mk' (by kernel_rfl)
theorem ch5 : Try.prog.cellsOf 5 = 1 := by kernel_rfl
theorem tu47 : Try.prog.underlying 47 = some (.pointer 5) := by kernel_rfl
theorem zi39 : (Try.prog.info? 39).map (·.zero) = some (some (.agg #[(.pointer none), (.slice none 0 0)])) := by kernel_rfl
theorem zr39 : ∀ β, VRels β [(.ptr none), (Sl.hv Sl.nil)] (Value.cells (.agg #[(.pointer none), (.slice none 0 0)])) := fun β => VRels.cons (.ptrNil) (VRels.cons (.slNil none) (VRels.nil β))
namespace valid_letter
theorem at_ : FnAt Try.prog 32 Try.f32 := ⟨Try.func32, by kernel_rfl⟩
noncomputable def d0 := (Try.f32.body).getD .skip
noncomputable def r1 := kR (kA d0)
noncomputable def r3 := kR (kA (kB d0))
noncomputable def c4 : Code := .ret
noncomputable def c0 : Code := .seq (.region 0 r1 false) (.seq (.region 1 r3 false) c4)
theorem body : Try.f32.body = some c0 := by kernel_rfl
section
variable {base : Nat} {W0 : World} {β0 : Bt}
def J1  (y16 : Bool) : Option (Bool) :=
  some y16
theorem J1_snd   {y16 : Bool} {S : HS} {p : Bool} {g0 g1 g2 g3 g4 g5 g6 g7 g8 g9 g10 g11 g12 g13 g14 g15 : HV} (h : J1  y16 = some p) : HRun Try.prog base W0 β0 32 none [.inRegion r3 [14], .code c4] ⟨[g0, g1, g2, g3, g4, g5, g6, g7, g8, g9, g10, g11, g12, g13, g14, g15, (.bool y16)], []⟩ S (fun v S1 => v = (.bool p) ∧ S1 = S) := by
  unfold J1 at h
  refine qS 2 rfl (ok_assign · (.tmp rfl)) ?_
  refine hr_region_end ?_
  try dsimp only [w0, w1, w2, w3]
  cases h
  exact q_ret rfl at_.at_ rfl (res1 rfl rfl) ⟨rfl, rfl⟩
def J2  (y9 : Bool) (y15 : Bool) : Option (Bool) :=
  (if y9 = true then
  J1 true else
  J1 y15)
theorem J2_snd   {y9 : Bool} {y15 : Bool} {S : HS} {p : Bool} {g0 g1 g2 g3 g4 g5 g6 g7 g8 g10 g11 g12 g13 g14 g16 : HV} (h : J2  y9 y15 = some p) : HRun Try.prog base W0 β0 32 none [.inRegion r3 [13, 14], .code c4] ⟨[g0, g1, g2, g3, g4, g5, g6, g7, g8, (.bool y9), g10, g11, g12, g13, g14, (.bool y15), g16], []⟩ S (fun v S1 => v = (.bool p) ∧ S1 = S) := by
  unfold J2 at h
  rcases ifc h with ⟨hc4, h⟩ | ⟨hc4, h⟩
  · refine qS 16 rfl (ok_pick_tt · (.tmp rfl) hc4 (.bool _)) ?_
    try dsimp only [w0, w1, w2, w3]
    exact J1_snd  h
  · refine qS 16 rfl (ok_pick_ff · (.tmp rfl) (bfalse hc4) (.tmp rfl)) ?_
    try dsimp only [w0, w1, w2, w3]
    exact J1_snd  h
def J0  (y0 : Int) (y8 : Bool) : Option (Bool) :=
  (if y8 = true then
  J1 true else
  (if y0 ≥ 65 then
  J2 y8 (decide (y0 ≤ 90)) else
  J2 y8 false))
theorem J0_snd   {y0 : Int} {y8 : Bool} {S : HS} {p : Bool} {g1 g2 g3 g4 g5 g6 g7 g9 g10 g11 g12 g13 g14 g15 g16 : HV} (h : J0  y0 y8 = some p) : HRun Try.prog base W0 β0 32 none [.inRegion r3 [6, 7, 8, 9, 10, 11, 12, 13, 14], .code c4] ⟨[(.int .i64 y0), g1, g2, g3, g4, g5, g6, g7, (.bool y8), g9, g10, g11, g12, g13, g14, g15, g16], []⟩ S (fun v S1 => v = (.bool p) ∧ S1 = S) := by
  unfold J0 at h
  refine qS 9 rfl (ok_move · (.tmp rfl)) ?_
  rcases ifc h with ⟨hc2, h⟩ | ⟨hc2, h⟩
  · refine q_skip (dst := some 10) (t := 9) rfl rfl rfl hc2 ?_
    try dsimp only [w0, w1, w2, w3]
    refine q_skip (dst := some 11) (t := 9) rfl rfl rfl hc2 ?_
    refine q_skip (dst := some 12) (t := 9) rfl rfl rfl hc2 ?_
    refine q_skip_u (dst := some 13) (t := 12) rfl rfl rfl ?_
    refine q_skip_u (dst := some 14) (t := 12) rfl rfl rfl ?_
    try dsimp only [w0, w1, w2, w3]
    refine q_skip (dst := some 15) (t := 9) rfl rfl rfl hc2 ?_
    refine qS 16 rfl (ok_pick_tt · (.tmp rfl) hc2 (.bool _)) ?_
    try dsimp only [w0, w1, w2, w3]
    exact J1_snd  h
  · refine qG 9 10 rfl (bfalse hc2) (ok_move · (.tmp rfl)) ?_
    try dsimp only [w0, w1, w2, w3]
    refine qG 9 11 rfl (bfalse hc2) (ok_ibin · (.tmp rfl) (.int _ _) rfl) ?_
    refine qG 9 12 rfl (bfalse hc2) (ok_move · (.tmp rfl)) ?_
    rcases ifc h with ⟨hc3, h⟩ | ⟨hc3, h⟩
    · refine qG 12 13 rfl (decide_eq_true hc3) (ok_move · (.tmp rfl)) ?_
      refine qG 12 14 rfl (decide_eq_true hc3) (ok_ibin · (.tmp rfl) (.int _ _) rfl) ?_
      try dsimp only [w0, w1, w2, w3]
      refine qG 9 15 rfl (bfalse hc2) (ok_pick_tt · (.tmp rfl) (decide_eq_true hc3) (.tmp rfl)) ?_
      try dsimp only [w0, w1, w2, w3]
      exact J2_snd  h
    · refine q_skip (dst := some 13) (t := 12) rfl rfl rfl (decide_eq_false hc3) ?_
      refine q_skip (dst := some 14) (t := 12) rfl rfl rfl (decide_eq_false hc3) ?_
      try dsimp only [w0, w1, w2, w3]
      refine qG 9 15 rfl (bfalse hc2) (ok_pick_ff · (.tmp rfl) (decide_eq_false hc3) (.bool _)) ?_
      try dsimp only [w0, w1, w2, w3]
      exact J2_snd  h
def f (x0 : Int) : Option (Bool) :=
  (if x0 ≥ 97 then
  J0 x0 (decide (x0 ≤ 122)) else
  J0 x0 false)
theorem snd {x0 : Int} {S : HS}  {p : Bool} (h : f x0 = some p) : HCall Try.prog base W0 β0 32 [(.int .i64 x0)] S (fun v S1 => v = (.bool p) ∧ S1 = S) := by
  unfold f at h
  refine HCall.of_run at_.at_ body ?_
  show HRun Try.prog base W0 β0 32 none [.code c0] ⟨[(.int .i64 x0), τ, τ, τ, τ, τ, τ, τ, τ, τ, τ, τ, τ, τ, τ, τ, τ], []⟩ S _
  refine q_seq rfl ?_
  refine q_region rfl rfl ?_
  refine qS 2 rfl (ok_assign · (.bool _)) ?_
  refine hr_region_end ?_
  try dsimp only [w0, w1, w2, w3]
  refine q_seq rfl ?_
  refine q_region rfl rfl ?_
  refine qS 3 rfl (ok_move · (.tmp rfl)) ?_
  refine qS 4 rfl (ok_ibin · (.tmp rfl) (.int _ _) rfl) ?_
  refine qS 5 rfl (ok_move · (.tmp rfl)) ?_
  rcases ifc h with ⟨hc1, h⟩ | ⟨hc1, h⟩
  · refine qG 5 6 rfl (decide_eq_true hc1) (ok_move · (.tmp rfl)) ?_
    try dsimp only [w0, w1, w2, w3]
    refine qG 5 7 rfl (decide_eq_true hc1) (ok_ibin · (.tmp rfl) (.int _ _) rfl) ?_
    refine qS 8 rfl (ok_pick_tt · (.tmp rfl) (decide_eq_true hc1) (.tmp rfl)) ?_
    try dsimp only [w0, w1, w2, w3]
    exact J0_snd  h
  · refine q_skip (dst := some 6) (t := 5) rfl rfl rfl (decide_eq_false hc1) ?_
    try dsimp only [w0, w1, w2, w3]
    refine q_skip (dst := some 7) (t := 5) rfl rfl rfl (decide_eq_false hc1) ?_
    refine qS 8 rfl (ok_pick_ff · (.tmp rfl) (decide_eq_false hc1) (.bool _)) ?_
    try dsimp only [w0, w1, w2, w3]
    exact J0_snd  h
end
end valid_letter
namespace internal_stringslite_IndexByte
theorem at_ : FnAt Try.prog 41 Try.f41 := ⟨Try.func41, by kernel_rfl⟩
noncomputable def d0 := (Try.f41.body).getD .skip
noncomputable def r1 := kR (kA d0)
noncomputable def r3 := kR (kA (kB d0))
noncomputable def c0 : Code := .seq (.region 0 r1 false) (.seq (.region 1 r3 false) .ret)
theorem body : Try.f41.body = some c0 := by kernel_rfl
section
variable {base : Nat} {W0 : World} {β0 : Bt}
def f (x0 : (List UInt8)) (x1 : Int) : Option (Int) :=
  some (bidx x0 x1)
theorem snd {x0 : (List UInt8)} {x1 : Int} {S : HS}  {p : Int} (h : f x0 x1 = some p) : HCall Try.prog base W0 β0 41 [(.str x0), (.int .u8 x1)] S (fun v S1 => v = (.int .i64 p) ∧ S1 = S) := by
  unfold f at h
  refine HCall.of_run at_.at_ body ?_
  show HRun Try.prog base W0 β0 41 none [.code c0] ⟨[(.str x0), (.int .u8 x1), τ, τ, τ, τ, τ, τ], []⟩ S _
  refine q_seq rfl ?_
  refine q_region rfl rfl ?_
  refine qS 4 rfl (ok_assign · (.int _ _)) ?_
  refine hr_region_end ?_
  try dsimp only [w0, w1, w2, w3]
  refine q_seq rfl ?_
  refine q_region rfl rfl ?_
  refine qS 5 rfl (ok_move · (.tmp rfl)) ?_
  refine qS 6 rfl (ok_move · (.tmp rfl)) ?_
  refine qS 7 rfl (ok_idxByte · ext43 (.tmp rfl) (.tmp rfl)) ?_
  refine qS 4 rfl (ok_assign · (.tmp rfl)) ?_
  refine hr_region_end ?_
  try dsimp only [w0, w1, w2, w3]
  cases h
  exact q_ret rfl at_.at_ rfl (res1 rfl rfl) ⟨rfl, rfl⟩
end
end internal_stringslite_IndexByte
namespace strings_IndexByte
theorem at_ : FnAt Try.prog 39 Try.f39 := ⟨Try.func39, by kernel_rfl⟩
noncomputable def d0 := (Try.f39.body).getD .skip
noncomputable def r1 := kR (kA d0)
noncomputable def r3 := kR (kA (kB d0))
noncomputable def c0 : Code := .seq (.region 0 r1 false) (.seq (.region 1 r3 false) .ret)
theorem body : Try.f39.body = some c0 := by kernel_rfl
section
variable {base : Nat} {W0 : World} {β0 : Bt}
def f (x0 : (List UInt8)) (x1 : Int) : Option (Int) :=
  (Option.bind (internal_stringslite_IndexByte.f x0 x1) fun p1 =>
  some p1)
theorem snd {x0 : (List UInt8)} {x1 : Int} {S : HS}  {p : Int} (h : f x0 x1 = some p) : HCall Try.prog base W0 β0 39 [(.str x0), (.int .u8 x1)] S (fun v S1 => v = (.int .i64 p) ∧ S1 = S) := by
  unfold f at h
  refine HCall.of_run at_.at_ body ?_
  show HRun Try.prog base W0 β0 39 none [.code c0] ⟨[(.str x0), (.int .u8 x1), τ, τ, τ, τ, τ, τ], []⟩ S _
  refine q_seq rfl ?_
  refine q_region rfl rfl ?_
  refine qS 4 rfl (ok_assign · (.int _ _)) ?_
  refine hr_region_end ?_
  try dsimp only [w0, w1, w2, w3]
  refine q_seq rfl ?_
  refine q_region rfl rfl ?_
  refine qS 5 rfl (ok_move · (.tmp rfl)) ?_
  refine qS 6 rfl (ok_move · (.tmp rfl)) ?_
  obtain ⟨p1, hp1, h⟩ := bindo h
  refine q_call (dst := some 7) rfl (.func _) (.cons (.tmp rfl) (.cons (.tmp rfl) Evs.nil)) (HInv.static internal_stringslite_IndexByte.at_ internal_stringslite_IndexByte.body (internal_stringslite_IndexByte.snd  hp1)) ?_
  rintro _ _ ⟨rfl, rfl⟩
  refine qS 4 rfl (ok_assign · (.tmp rfl)) ?_
  refine hr_region_end ?_
  try dsimp only [w0, w1, w2, w3]
  cases h
  exact q_ret rfl at_.at_ rfl (res1 rfl rfl) ⟨rfl, rfl⟩
end
end strings_IndexByte
namespace valid_has
theorem at_ : FnAt Try.prog 33 Try.f33 := ⟨Try.func33, by kernel_rfl⟩
noncomputable def d0 := (Try.f33.body).getD .skip
noncomputable def r1 := kR (kA d0)
noncomputable def r3 := kR (kA (kB d0))
noncomputable def c0 : Code := .seq (.region 0 r1 false) (.seq (.region 1 r3 false) .ret)
theorem body : Try.f33.body = some c0 := by kernel_rfl
section
variable {base : Nat} {W0 : World} {β0 : Bt}
def f (x0 : (List UInt8)) (x1 : Int) : Option (Bool) :=
  (Option.bind (strings_IndexByte.f x0 (w8 x1)) fun p1 =>
  some (decide (p1 ≥ 0)))
theorem snd {x0 : (List UInt8)} {x1 : Int} {S : HS}  {p : Bool} (h : f x0 x1 = some p) : HCall Try.prog base W0 β0 33 [(.str x0), (.int .i64 x1)] S (fun v S1 => v = (.bool p) ∧ S1 = S) := by
  unfold f at h
  refine HCall.of_run at_.at_ body ?_
  show HRun Try.prog base W0 β0 33 none [.code c0] ⟨[(.str x0), (.int .i64 x1), τ, τ, τ, τ, τ, τ, τ, τ], []⟩ S _
  refine q_seq rfl ?_
  refine q_region rfl rfl ?_
  refine qS 4 rfl (ok_assign · (.bool _)) ?_
  refine hr_region_end ?_
  try dsimp only [w0, w1, w2, w3]
  refine q_seq rfl ?_
  refine q_region rfl rfl ?_
  refine qS 5 rfl (ok_move · (.tmp rfl)) ?_
  refine qS 6 rfl (ok_move · (.tmp rfl)) ?_
  refine qS 7 rfl (ok_conv_int · tu3 tu5 (.tmp rfl)) ?_
  obtain ⟨p1, hp1, h⟩ := bindo h
  refine q_call (dst := some 8) rfl (.func _) (.cons (.tmp rfl) (.cons (.tmp rfl) Evs.nil)) (HInv.static strings_IndexByte.at_ strings_IndexByte.body (strings_IndexByte.snd  hp1)) ?_
  rintro _ _ ⟨rfl, rfl⟩
  try dsimp only [w0, w1, w2, w3]
  refine qS 9 rfl (ok_ibin · (.tmp rfl) (.int _ _) rfl) ?_
  refine qS 4 rfl (ok_assign · (.tmp rfl)) ?_
  refine hr_region_end ?_
  try dsimp only [w0, w1, w2, w3]
  cases h
  exact q_ret rfl at_.at_ rfl (res1 rfl rfl) ⟨rfl, rfl⟩
end
end valid_has
namespace valid_kinds
theorem at_ : FnAt Try.prog 34 Try.f34 := ⟨Try.func34, by kernel_rfl⟩
noncomputable def d0 := (Try.f34.body).getD .skip
noncomputable def r1 := kR (kA d0)
noncomputable def r3 := kR (kA (kB d0))
noncomputable def d5 := kA (kB (kB d0))
noncomputable def r6 := kR (kA d5)
noncomputable def d9 := kA (kA (kB d5))
noncomputable def r10 := kR (kA d9)
noncomputable def d16 := kA (kB (kB d9))
noncomputable def r18 := kR (kA (kA d16))
noncomputable def r20 := kR (kA (kB (kA d16)))
noncomputable def d21 := kB (kB (kA d16))
noncomputable def r22 := kR (kA d21)
noncomputable def r25 := kR (kA (kA (kB d21)))
noncomputable def r27 := kR (kA (kB (kA (kB d21))))
noncomputable def r31 := kR (kA (kA (kB (kB d21))))
noncomputable def r33 := kR (kA (kB (kA (kB (kB d21)))))
noncomputable def d35 := kB (kB (kB d21))
noncomputable def r37 := kR (kA (kA d35))
noncomputable def r39 := kR (kA (kB (kA d35)))
noncomputable def r43 := kR (kA (kA (kB d35)))
noncomputable def r45 := kR (kA (kB (kA (kB d35))))
noncomputable def r49 := kR (kA (kA (kB (kB d35))))
noncomputable def r51 := kR (kA (kB (kA (kB (kB d35)))))
noncomputable def d53 := kB (kB (kB d35))
noncomputable def r55 := kR (kA (kA d53))
noncomputable def r57 := kR (kA (kB (kA d53)))
noncomputable def r60 := kR (kA (kB d53))
noncomputable def r62 := kR (kA (kB (kB d53)))
noncomputable def r64 := kR (kB (kB (kB d9)))
noncomputable def r66 := kR (kA (kB (kB (kB d0))))
noncomputable def c65 : Code := .seq (.region 22 r66 false) .ret
noncomputable def c64 : Code := .region 21 r64 false
noncomputable def c59 : Code := .seq (.region 19 r60 false) (.cond (.tmp 86) (.region 20 r62 false) .skip)
noncomputable def c56 : Code := .cond (.tmp 78) (.region 18 r57 false) .skip
noncomputable def c53 : Code := .seq (.seq (.region 17 r55 false) c56) c59
noncomputable def c50 : Code := .cond (.tmp 68) (.region 16 r51 false) .skip
noncomputable def c47 : Code := .seq (.seq (.region 15 r49 false) c50) c53
noncomputable def c44 : Code := .cond (.tmp 54) (.region 14 r45 false) .skip
noncomputable def c41 : Code := .seq (.seq (.region 13 r43 false) c44) c47
noncomputable def c35 : Code := .seq (.seq (.region 11 r37 false) (.cond (.tmp 43) (.region 12 r39 false) .skip)) c41
noncomputable def c32 : Code := .cond (.tmp 35) (.region 10 r33 false) .skip
noncomputable def c29 : Code := .seq (.seq (.region 9 r31 false) c32) c35
noncomputable def c26 : Code := .cond (.tmp 25) (.region 8 r27 false) .skip
noncomputable def c23 : Code := .seq (.seq (.region 7 r25 false) c26) c29
noncomputable def c21 : Code := .seq (.region 6 r22 false) c23
noncomputable def c9 : Code := .seq (.region 3 r10 false) (.seq (.cond (.tmp 6) .skip (.exit 0)) (.seq (.block 1 (.seq (.region 4 r18 false) (.seq (.region 5 r20 false) c21))) c64))
noncomputable def c0 : Code := .seq (.region 0 r1 false) (.seq (.region 1 r3 false) (.seq (.seq (.region 2 r6 false) (.block 0 (.loop c9))) c65))
theorem body : Try.f34.body = some c0 := by kernel_rfl
section
variable {base : Nat} {W0 : World} {β0 : Bt}
def J15 (k : Nat) (rec0 : (Option HA) → (Option HA) → Int → HS → Option (((List HV)) × HS)) (y0 : (Option HA)) (y1 : (Option HA)) (y5 : Int) (S : HS) : Option (((List HV)) × HS) :=
  rec0 y0 y1 (w64 (y5 + 1)) S
theorem J15_snd {k : Nat} {rec0 : (Option HA) → (Option HA) → Int → HS → Option (((List HV)) × HS)} (hrec0 : ∀ ⦃y0 : (Option HA)⦄ ⦃y1 : (Option HA)⦄ ⦃y5 : Int⦄ ⦃S : HS⦄ ⦃p : ((List HV)) × HS⦄ ⦃g2 g3 g4 g6 g7 g8 g9 g10 g11 g12 g13 g14 g15 g16 g17 g18 g19 g20 g21 g22 g23 g24 g25 g26 g27 g28 g29 g30 g31 g32 g33 g34 g35 g36 g37 g38 g39 g40 g41 g42 g43 g44 g45 g46 g47 g48 g49 g50 g51 g52 g53 g54 g55 g56 g57 g58 g59 g60 g61 g62 g63 g64 g65 g66 g67 g68 g69 g70 g71 g72 g73 g74 g75 g76 g77 g78 g79 g80 g81 g82 g83 g84 g85 g86 g87 g88 g89 g90 g91 g92 g93 : HV⦄, rec0 y0 y1 y5 S = some p → HRun Try.prog base W0 β0 34 none [.inLoop c9, .inBlock 0, .code c65] ⟨[(.ptr y0), (.ptr y1), g2, g3, g4, (.int .i64 y5), g6, g7, g8, g9, g10, g11, g12, g13, g14, g15, g16, g17, g18, g19, g20, g21, g22, g23, g24, g25, g26, g27, g28, g29, g30, g31, g32, g33, g34, g35, g36, g37, g38, g39, g40, g41, g42, g43, g44, g45, g46, g47, g48, g49, g50, g51, g52, g53, g54, g55, g56, g57, g58, g59, g60, g61, g62, g63, g64, g65, g66, g67, g68, g69, g70, g71, g72, g73, g74, g75, g76, g77, g78, g79, g80, g81, g82, g83, g84, g85, g86, g87, g88, g89, g90, g91, g92, g93], []⟩ S (fun v S1 => v = (.agg p.1) ∧ S1 = p.2)) {y0 : (Option HA)} {y1 : (Option HA)} {y5 : Int} {S : HS} {p : ((List HV)) × HS} {g2 g3 g4 g6 g7 g8 g9 g10 g11 g12 g13 g14 g15 g16 g17 g18 g19 g20 g21 g22 g23 g24 g25 g26 g27 g28 g29 g30 g31 g32 g33 g34 g35 g36 g37 g38 g39 g40 g41 g42 g43 g44 g45 g46 g47 g48 g49 g50 g51 g52 g53 g54 g55 g56 g57 g58 g59 g60 g61 g62 g63 g64 g65 g66 g67 g68 g69 g70 g71 g72 g73 g74 g75 g76 g77 g78 g79 g80 g81 g82 g83 g84 g85 g86 g87 g88 g89 g90 g91 g92 g93 : HV} (h : J15 k rec0 y0 y1 y5 S = some p) : HRun Try.prog base W0 β0 34 none [.code c64, .inLoop c9, .inBlock 0, .code c65] ⟨[(.ptr y0), (.ptr y1), g2, g3, g4, (.int .i64 y5), g6, g7, g8, g9, g10, g11, g12, g13, g14, g15, g16, g17, g18, g19, g20, g21, g22, g23, g24, g25, g26, g27, g28, g29, g30, g31, g32, g33, g34, g35, g36, g37, g38, g39, g40, g41, g42, g43, g44, g45, g46, g47, g48, g49, g50, g51, g52, g53, g54, g55, g56, g57, g58, g59, g60, g61, g62, g63, g64, g65, g66, g67, g68, g69, g70, g71, g72, g73, g74, g75, g76, g77, g78, g79, g80, g81, g82, g83, g84, g85, g86, g87, g88, g89, g90, g91, g92, g93], []⟩ S (fun v S1 => v = (.agg p.1) ∧ S1 = p.2) := by
  unfold J15 at h
  refine q_region rfl rfl ?_
  refine qS 92 rfl (ok_ibin · (.tmp rfl) (.int _ _) rfl) ?_
  refine qS 5 rfl (ok_move · (.tmp rfl)) ?_
  refine hr_region_end ?_
  try dsimp only [w0, w1, w2, w3]
  try dsimp only [w0, w1, w2, w3]
  exact hrec0 h
def J14 (k : Nat) (rec0 : (Option HA) → (Option HA) → Int → HS → Option (((List HV)) × HS)) (y0 : (Option HA)) (y1 : (Option HA)) (y2 : Int) (y5 : Int) (S : HS) : Option (((List HV)) × HS) :=
  (Option.bind (valid_has.f ([0, 10, 13] : List UInt8) y2) fun p58 =>
  (if (!p58) = true then
  (Option.bind (y1) fun p60 =>
  (if 0 ≤ (y2 : Int) ∧ (y2 : Int) < 256 then
  (Option.bind (HS.ldI S .u16 (HA.fld p60 (Int.toNat y2))) fun p62 =>
  (Option.bind (y1) fun p63 =>
  (if 0 ≤ (y2 : Int) ∧ (y2 : Int) < 256 then
  (Option.bind (HS.sets S (HA.fld p63 (Int.toNat y2)) [(.int .u16 (ior .u16 p62 64))]) fun p65 =>
  J15 k rec0 y0 y1 y5 p65) else none))) else none)) else
  J15 k rec0 y0 y1 y5 S))
theorem J14_snd {k : Nat} {rec0 : (Option HA) → (Option HA) → Int → HS → Option (((List HV)) × HS)} (hrec0 : ∀ ⦃y0 : (Option HA)⦄ ⦃y1 : (Option HA)⦄ ⦃y5 : Int⦄ ⦃S : HS⦄ ⦃p : ((List HV)) × HS⦄ ⦃g2 g3 g4 g6 g7 g8 g9 g10 g11 g12 g13 g14 g15 g16 g17 g18 g19 g20 g21 g22 g23 g24 g25 g26 g27 g28 g29 g30 g31 g32 g33 g34 g35 g36 g37 g38 g39 g40 g41 g42 g43 g44 g45 g46 g47 g48 g49 g50 g51 g52 g53 g54 g55 g56 g57 g58 g59 g60 g61 g62 g63 g64 g65 g66 g67 g68 g69 g70 g71 g72 g73 g74 g75 g76 g77 g78 g79 g80 g81 g82 g83 g84 g85 g86 g87 g88 g89 g90 g91 g92 g93 : HV⦄, rec0 y0 y1 y5 S = some p → HRun Try.prog base W0 β0 34 none [.inLoop c9, .inBlock 0, .code c65] ⟨[(.ptr y0), (.ptr y1), g2, g3, g4, (.int .i64 y5), g6, g7, g8, g9, g10, g11, g12, g13, g14, g15, g16, g17, g18, g19, g20, g21, g22, g23, g24, g25, g26, g27, g28, g29, g30, g31, g32, g33, g34, g35, g36, g37, g38, g39, g40, g41, g42, g43, g44, g45, g46, g47, g48, g49, g50, g51, g52, g53, g54, g55, g56, g57, g58, g59, g60, g61, g62, g63, g64, g65, g66, g67, g68, g69, g70, g71, g72, g73, g74, g75, g76, g77, g78, g79, g80, g81, g82, g83, g84, g85, g86, g87, g88, g89, g90, g91, g92, g93], []⟩ S (fun v S1 => v = (.agg p.1) ∧ S1 = p.2)) {y0 : (Option HA)} {y1 : (Option HA)} {y2 : Int} {y5 : Int} {S : HS} {p : ((List HV)) × HS} {g3 g4 g6 g7 g8 g9 g10 g11 g12 g13 g14 g15 g16 g17 g18 g19 g20 g21 g22 g23 g24 g25 g26 g27 g28 g29 g30 g31 g32 g33 g34 g35 g36 g37 g38 g39 g40 g41 g42 g43 g44 g45 g46 g47 g48 g49 g50 g51 g52 g53 g54 g55 g56 g57 g58 g59 g60 g61 g62 g63 g64 g65 g66 g67 g68 g69 g70 g71 g72 g73 g74 g75 g76 g77 g78 g79 g80 g81 g82 g83 g84 g85 g86 g87 g88 g89 g90 g91 g92 g93 : HV} (h : J14 k rec0 y0 y1 y2 y5 S = some p) : HRun Try.prog base W0 β0 34 none [.code c59, .inBlock 1, .code c64, .inLoop c9, .inBlock 0, .code c65] ⟨[(.ptr y0), (.ptr y1), (.int .i64 y2), g3, g4, (.int .i64 y5), g6, g7, g8, g9, g10, g11, g12, g13, g14, g15, g16, g17, g18, g19, g20, g21, g22, g23, g24, g25, g26, g27, g28, g29, g30, g31, g32, g33, g34, g35, g36, g37, g38, g39, g40, g41, g42, g43, g44, g45, g46, g47, g48, g49, g50, g51, g52, g53, g54, g55, g56, g57, g58, g59, g60, g61, g62, g63, g64, g65, g66, g67, g68, g69, g70, g71, g72, g73, g74, g75, g76, g77, g78, g79, g80, g81, g82, g83, g84, g85, g86, g87, g88, g89, g90, g91, g92, g93], []⟩ S (fun v S1 => v = (.agg p.1) ∧ S1 = p.2) := by
  unfold J14 at h
  refine q_seq rfl ?_
  refine q_region rfl rfl ?_
  refine qS 84 rfl (ok_move · (.tmp rfl)) ?_
  obtain ⟨p58, hp58, h⟩ := bindo h
  refine q_call (dst := some 85) rfl (.func _) (.cons (.str _) (.cons (.tmp rfl) Evs.nil)) (HInv.static valid_has.at_ valid_has.body (valid_has.snd  hp58)) ?_
  rintro _ _ ⟨rfl, rfl⟩
  refine qS 86 rfl (ok_not · (.tmp rfl)) ?_
  refine hr_region_end ?_
  try dsimp only [w0, w1, w2, w3]
  rcases ifc h with ⟨hc59, h⟩ | ⟨hc59, h⟩
  · refine q_cond_t rfl (.tmp rfl) hc59 ?_
    refine q_region rfl rfl ?_
    refine qS 87 rfl (ok_move · (.tmp rfl)) ?_
    obtain ⟨p60, hp60, h⟩ := bindo h
    obtain ⟨hg61, h⟩ := gd h
    refine qS 88 rfl (ok_indexAddr_arr · ta34 sz30 (.tmp rfl) hp60 (.tmp rfl) hg61) ?_
    obtain ⟨p62, hp62, h⟩ := bindo h
    refine qS 89 rfl (ok_load_s · sc30 (.tmp rfl) rfl (ldI_out hp62)) ?_
    refine qS 90 rfl (ok_ibin · (.tmp rfl) (.int _ _) rfl) ?_
    try dsimp only [w0, w1, w2, w3]
    obtain ⟨p63, hp63, h⟩ := bindo h
    obtain ⟨hg64, h⟩ := gd h
    refine qS 91 rfl (ok_indexAddr_arr · ta34 sz30 (.tmp rfl) hp63 (.tmp rfl) hg64) ?_
    obtain ⟨p65, hp65, h⟩ := bindo h
    refine qN rfl (ok_store_s (v := (.int .u16 (ior .u16 p62 64))) · sz30 (.tmp rfl) rfl (.tmp rfl) rfl hp65) ?_
    refine hr_region_end ?_
    try dsimp only [w0, w1, w2, w3]
    refine hr_inBlock ?_
    try dsimp only [w0, w1, w2, w3]
    exact J15_snd hrec0 h
  · refine q_cond_f rfl (.tmp rfl) (bfalse hc59) ?_
    refine q_skipc rfl ?_
    refine hr_inBlock ?_
    try dsimp only [w0, w1, w2, w3]
    exact J15_snd hrec0 h
def J13 (k : Nat) (rec0 : (Option HA) → (Option HA) → Int → HS → Option (((List HV)) × HS)) (y0 : (Option HA)) (y1 : (Option HA)) (y2 : Int) (y5 : Int) (y78 : Bool) (S : HS) : Option (((List HV)) × HS) :=
  (if y78 = true then
  (Option.bind (y1) fun p52 =>
  (if 0 ≤ (y2 : Int) ∧ (y2 : Int) < 256 then
  (Option.bind (HS.ldI S .u16 (HA.fld p52 (Int.toNat y2))) fun p54 =>
  (Option.bind (y1) fun p55 =>
  (if 0 ≤ (y2 : Int) ∧ (y2 : Int) < 256 then
  (Option.bind (HS.sets S (HA.fld p55 (Int.toNat y2)) [(.int .u16 (ior .u16 p54 32))]) fun p57 =>
  J14 k rec0 y0 y1 y2 y5 p57) else none))) else none)) else
  J14 k rec0 y0 y1 y2 y5 S)
theorem J13_snd {k : Nat} {rec0 : (Option HA) → (Option HA) → Int → HS → Option (((List HV)) × HS)} (hrec0 : ∀ ⦃y0 : (Option HA)⦄ ⦃y1 : (Option HA)⦄ ⦃y5 : Int⦄ ⦃S : HS⦄ ⦃p : ((List HV)) × HS⦄ ⦃g2 g3 g4 g6 g7 g8 g9 g10 g11 g12 g13 g14 g15 g16 g17 g18 g19 g20 g21 g22 g23 g24 g25 g26 g27 g28 g29 g30 g31 g32 g33 g34 g35 g36 g37 g38 g39 g40 g41 g42 g43 g44 g45 g46 g47 g48 g49 g50 g51 g52 g53 g54 g55 g56 g57 g58 g59 g60 g61 g62 g63 g64 g65 g66 g67 g68 g69 g70 g71 g72 g73 g74 g75 g76 g77 g78 g79 g80 g81 g82 g83 g84 g85 g86 g87 g88 g89 g90 g91 g92 g93 : HV⦄, rec0 y0 y1 y5 S = some p → HRun Try.prog base W0 β0 34 none [.inLoop c9, .inBlock 0, .code c65] ⟨[(.ptr y0), (.ptr y1), g2, g3, g4, (.int .i64 y5), g6, g7, g8, g9, g10, g11, g12, g13, g14, g15, g16, g17, g18, g19, g20, g21, g22, g23, g24, g25, g26, g27, g28, g29, g30, g31, g32, g33, g34, g35, g36, g37, g38, g39, g40, g41, g42, g43, g44, g45, g46, g47, g48, g49, g50, g51, g52, g53, g54, g55, g56, g57, g58, g59, g60, g61, g62, g63, g64, g65, g66, g67, g68, g69, g70, g71, g72, g73, g74, g75, g76, g77, g78, g79, g80, g81, g82, g83, g84, g85, g86, g87, g88, g89, g90, g91, g92, g93], []⟩ S (fun v S1 => v = (.agg p.1) ∧ S1 = p.2)) {y0 : (Option HA)} {y1 : (Option HA)} {y2 : Int} {y5 : Int} {y78 : Bool} {S : HS} {p : ((List HV)) × HS} {g3 g4 g6 g7 g8 g9 g10 g11 g12 g13 g14 g15 g16 g17 g18 g19 g20 g21 g22 g23 g24 g25 g26 g27 g28 g29 g30 g31 g32 g33 g34 g35 g36 g37 g38 g39 g40 g41 g42 g43 g44 g45 g46 g47 g48 g49 g50 g51 g52 g53 g54 g55 g56 g57 g58 g59 g60 g61 g62 g63 g64 g65 g66 g67 g68 g69 g70 g71 g72 g73 g74 g75 g76 g77 g79 g80 g81 g82 g83 g84 g85 g86 g87 g88 g89 g90 g91 g92 g93 : HV} (h : J13 k rec0 y0 y1 y2 y5 y78 S = some p) : HRun Try.prog base W0 β0 34 none [.code c56, .code c59, .inBlock 1, .code c64, .inLoop c9, .inBlock 0, .code c65] ⟨[(.ptr y0), (.ptr y1), (.int .i64 y2), g3, g4, (.int .i64 y5), g6, g7, g8, g9, g10, g11, g12, g13, g14, g15, g16, g17, g18, g19, g20, g21, g22, g23, g24, g25, g26, g27, g28, g29, g30, g31, g32, g33, g34, g35, g36, g37, g38, g39, g40, g41, g42, g43, g44, g45, g46, g47, g48, g49, g50, g51, g52, g53, g54, g55, g56, g57, g58, g59, g60, g61, g62, g63, g64, g65, g66, g67, g68, g69, g70, g71, g72, g73, g74, g75, g76, g77, (.bool y78), g79, g80, g81, g82, g83, g84, g85, g86, g87, g88, g89, g90, g91, g92, g93], []⟩ S (fun v S1 => v = (.agg p.1) ∧ S1 = p.2) := by
  unfold J13 at h
  rcases ifc h with ⟨hc51, h⟩ | ⟨hc51, h⟩
  · refine q_cond_t rfl (.tmp rfl) hc51 ?_
    refine q_region rfl rfl ?_
    refine qS 79 rfl (ok_move · (.tmp rfl)) ?_
    obtain ⟨p52, hp52, h⟩ := bindo h
    obtain ⟨hg53, h⟩ := gd h
    refine qS 80 rfl (ok_indexAddr_arr · ta34 sz30 (.tmp rfl) hp52 (.tmp rfl) hg53) ?_
    obtain ⟨p54, hp54, h⟩ := bindo h
    refine qS 81 rfl (ok_load_s · sc30 (.tmp rfl) rfl (ldI_out hp54)) ?_
    refine qS 82 rfl (ok_ibin · (.tmp rfl) (.int _ _) rfl) ?_
    try dsimp only [w0, w1, w2, w3]
    obtain ⟨p55, hp55, h⟩ := bindo h
    obtain ⟨hg56, h⟩ := gd h
    refine qS 83 rfl (ok_indexAddr_arr · ta34 sz30 (.tmp rfl) hp55 (.tmp rfl) hg56) ?_
    obtain ⟨p57, hp57, h⟩ := bindo h
    refine qN rfl (ok_store_s (v := (.int .u16 (ior .u16 p54 32))) · sz30 (.tmp rfl) rfl (.tmp rfl) rfl hp57) ?_
    refine hr_region_end ?_
    try dsimp only [w0, w1, w2, w3]
    try dsimp only [w0, w1, w2, w3]
    exact J14_snd hrec0 h
  · refine q_cond_f rfl (.tmp rfl) (bfalse hc51) ?_
    refine q_skipc rfl ?_
    try dsimp only [w0, w1, w2, w3]
    exact J14_snd hrec0 h
def J12 (k : Nat) (rec0 : (Option HA) → (Option HA) → Int → HS → Option (((List HV)) × HS)) (y0 : (Option HA)) (y1 : (Option HA)) (y2 : Int) (y4 : Bool) (y5 : Int) (S : HS) : Option (((List HV)) × HS) :=
  (if y4 = true then
  J13 k rec0 y0 y1 y2 y5 (!decide (y2 = 44)) S else
  J13 k rec0 y0 y1 y2 y5 false S)
theorem J12_snd {k : Nat} {rec0 : (Option HA) → (Option HA) → Int → HS → Option (((List HV)) × HS)} (hrec0 : ∀ ⦃y0 : (Option HA)⦄ ⦃y1 : (Option HA)⦄ ⦃y5 : Int⦄ ⦃S : HS⦄ ⦃p : ((List HV)) × HS⦄ ⦃g2 g3 g4 g6 g7 g8 g9 g10 g11 g12 g13 g14 g15 g16 g17 g18 g19 g20 g21 g22 g23 g24 g25 g26 g27 g28 g29 g30 g31 g32 g33 g34 g35 g36 g37 g38 g39 g40 g41 g42 g43 g44 g45 g46 g47 g48 g49 g50 g51 g52 g53 g54 g55 g56 g57 g58 g59 g60 g61 g62 g63 g64 g65 g66 g67 g68 g69 g70 g71 g72 g73 g74 g75 g76 g77 g78 g79 g80 g81 g82 g83 g84 g85 g86 g87 g88 g89 g90 g91 g92 g93 : HV⦄, rec0 y0 y1 y5 S = some p → HRun Try.prog base W0 β0 34 none [.inLoop c9, .inBlock 0, .code c65] ⟨[(.ptr y0), (.ptr y1), g2, g3, g4, (.int .i64 y5), g6, g7, g8, g9, g10, g11, g12, g13, g14, g15, g16, g17, g18, g19, g20, g21, g22, g23, g24, g25, g26, g27, g28, g29, g30, g31, g32, g33, g34, g35, g36, g37, g38, g39, g40, g41, g42, g43, g44, g45, g46, g47, g48, g49, g50, g51, g52, g53, g54, g55, g56, g57, g58, g59, g60, g61, g62, g63, g64, g65, g66, g67, g68, g69, g70, g71, g72, g73, g74, g75, g76, g77, g78, g79, g80, g81, g82, g83, g84, g85, g86, g87, g88, g89, g90, g91, g92, g93], []⟩ S (fun v S1 => v = (.agg p.1) ∧ S1 = p.2)) {y0 : (Option HA)} {y1 : (Option HA)} {y2 : Int} {y4 : Bool} {y5 : Int} {S : HS} {p : ((List HV)) × HS} {g3 g6 g7 g8 g9 g10 g11 g12 g13 g14 g15 g16 g17 g18 g19 g20 g21 g22 g23 g24 g25 g26 g27 g28 g29 g30 g31 g32 g33 g34 g35 g36 g37 g38 g39 g40 g41 g42 g43 g44 g45 g46 g47 g48 g49 g50 g51 g52 g53 g54 g55 g56 g57 g58 g59 g60 g61 g62 g63 g64 g65 g66 g67 g68 g69 g70 g71 g72 g73 g74 g75 g76 g77 g78 g79 g80 g81 g82 g83 g84 g85 g86 g87 g88 g89 g90 g91 g92 g93 : HV} (h : J12 k rec0 y0 y1 y2 y4 y5 S = some p) : HRun Try.prog base W0 β0 34 none [.code c53, .inBlock 1, .code c64, .inLoop c9, .inBlock 0, .code c65] ⟨[(.ptr y0), (.ptr y1), (.int .i64 y2), g3, (.bool y4), (.int .i64 y5), g6, g7, g8, g9, g10, g11, g12, g13, g14, g15, g16, g17, g18, g19, g20, g21, g22, g23, g24, g25, g26, g27, g28, g29, g30, g31, g32, g33, g34, g35, g36, g37, g38, g39, g40, g41, g42, g43, g44, g45, g46, g47, g48, g49, g50, g51, g52, g53, g54, g55, g56, g57, g58, g59, g60, g61, g62, g63, g64, g65, g66, g67, g68, g69, g70, g71, g72, g73, g74, g75, g76, g77, g78, g79, g80, g81, g82, g83, g84, g85, g86, g87, g88, g89, g90, g91, g92, g93], []⟩ S (fun v S1 => v = (.agg p.1) ∧ S1 = p.2) := by
  unfold J12 at h
  refine q_seq rfl ?_
  refine q_seq rfl ?_
  refine q_region rfl rfl ?_
  refine qS 74 rfl (ok_move · (.tmp rfl)) ?_
  refine qS 75 rfl (ok_move · (.tmp rfl)) ?_
  rcases ifc h with ⟨hc50, h⟩ | ⟨hc50, h⟩
  · refine qG 75 76 rfl hc50 (ok_move · (.tmp rfl)) ?_
    refine qG 75 77 rfl hc50 (ok_ibin · (.tmp rfl) (.int _ _) rfl) ?_
    try dsimp only [w0, w1, w2, w3]
    refine qS 78 rfl (ok_pick_tt · (.tmp rfl) hc50 (.tmp rfl)) ?_
    refine hr_region_end ?_
    try dsimp only [w0, w1, w2, w3]
    try dsimp only [w0, w1, w2, w3]
    exact J13_snd hrec0 h
  · refine q_skip (dst := some 76) (t := 75) rfl rfl rfl (bfalse hc50) ?_
    refine q_skip (dst := some 77) (t := 75) rfl rfl rfl (bfalse hc50) ?_
    try dsimp only [w0, w1, w2, w3]
    refine qS 78 rfl (ok_pick_ff · (.tmp rfl) (bfalse hc50) (.bool _)) ?_
    refine hr_region_end ?_
    try dsimp only [w0, w1, w2, w3]
    try dsimp only [w0, w1, w2, w3]
    exact J13_snd hrec0 h
def J11 (k : Nat) (rec0 : (Option HA) → (Option HA) → Int → HS → Option (((List HV)) × HS)) (y0 : (Option HA)) (y1 : (Option HA)) (y2 : Int) (y4 : Bool) (y5 : Int) (y68 : Bool) (S : HS) : Option (((List HV)) × HS) :=
  (if y68 = true then
  (Option.bind (y1) fun p44 =>
  (if 0 ≤ (y2 : Int) ∧ (y2 : Int) < 256 then
  (Option.bind (HS.ldI S .u16 (HA.fld p44 (Int.toNat y2))) fun p46 =>
  (Option.bind (y1) fun p47 =>
  (if 0 ≤ (y2 : Int) ∧ (y2 : Int) < 256 then
  (Option.bind (HS.sets S (HA.fld p47 (Int.toNat y2)) [(.int .u16 (ior .u16 p46 16))]) fun p49 =>
  J12 k rec0 y0 y1 y2 y4 y5 p49) else none))) else none)) else
  J12 k rec0 y0 y1 y2 y4 y5 S)
theorem J11_snd {k : Nat} {rec0 : (Option HA) → (Option HA) → Int → HS → Option (((List HV)) × HS)} (hrec0 : ∀ ⦃y0 : (Option HA)⦄ ⦃y1 : (Option HA)⦄ ⦃y5 : Int⦄ ⦃S : HS⦄ ⦃p : ((List HV)) × HS⦄ ⦃g2 g3 g4 g6 g7 g8 g9 g10 g11 g12 g13 g14 g15 g16 g17 g18 g19 g20 g21 g22 g23 g24 g25 g26 g27 g28 g29 g30 g31 g32 g33 g34 g35 g36 g37 g38 g39 g40 g41 g42 g43 g44 g45 g46 g47 g48 g49 g50 g51 g52 g53 g54 g55 g56 g57 g58 g59 g60 g61 g62 g63 g64 g65 g66 g67 g68 g69 g70 g71 g72 g73 g74 g75 g76 g77 g78 g79 g80 g81 g82 g83 g84 g85 g86 g87 g88 g89 g90 g91 g92 g93 : HV⦄, rec0 y0 y1 y5 S = some p → HRun Try.prog base W0 β0 34 none [.inLoop c9, .inBlock 0, .code c65] ⟨[(.ptr y0), (.ptr y1), g2, g3, g4, (.int .i64 y5), g6, g7, g8, g9, g10, g11, g12, g13, g14, g15, g16, g17, g18, g19, g20, g21, g22, g23, g24, g25, g26, g27, g28, g29, g30, g31, g32, g33, g34, g35, g36, g37, g38, g39, g40, g41, g42, g43, g44, g45, g46, g47, g48, g49, g50, g51, g52, g53, g54, g55, g56, g57, g58, g59, g60, g61, g62, g63, g64, g65, g66, g67, g68, g69, g70, g71, g72, g73, g74, g75, g76, g77, g78, g79, g80, g81, g82, g83, g84, g85, g86, g87, g88, g89, g90, g91, g92, g93], []⟩ S (fun v S1 => v = (.agg p.1) ∧ S1 = p.2)) {y0 : (Option HA)} {y1 : (Option HA)} {y2 : Int} {y4 : Bool} {y5 : Int} {y68 : Bool} {S : HS} {p : ((List HV)) × HS} {g3 g6 g7 g8 g9 g10 g11 g12 g13 g14 g15 g16 g17 g18 g19 g20 g21 g22 g23 g24 g25 g26 g27 g28 g29 g30 g31 g32 g33 g34 g35 g36 g37 g38 g39 g40 g41 g42 g43 g44 g45 g46 g47 g48 g49 g50 g51 g52 g53 g54 g55 g56 g57 g58 g59 g60 g61 g62 g63 g64 g65 g66 g67 g69 g70 g71 g72 g73 g74 g75 g76 g77 g78 g79 g80 g81 g82 g83 g84 g85 g86 g87 g88 g89 g90 g91 g92 g93 : HV} (h : J11 k rec0 y0 y1 y2 y4 y5 y68 S = some p) : HRun Try.prog base W0 β0 34 none [.code c50, .code c53, .inBlock 1, .code c64, .inLoop c9, .inBlock 0, .code c65] ⟨[(.ptr y0), (.ptr y1), (.int .i64 y2), g3, (.bool y4), (.int .i64 y5), g6, g7, g8, g9, g10, g11, g12, g13, g14, g15, g16, g17, g18, g19, g20, g21, g22, g23, g24, g25, g26, g27, g28, g29, g30, g31, g32, g33, g34, g35, g36, g37, g38, g39, g40, g41, g42, g43, g44, g45, g46, g47, g48, g49, g50, g51, g52, g53, g54, g55, g56, g57, g58, g59, g60, g61, g62, g63, g64, g65, g66, g67, (.bool y68), g69, g70, g71, g72, g73, g74, g75, g76, g77, g78, g79, g80, g81, g82, g83, g84, g85, g86, g87, g88, g89, g90, g91, g92, g93], []⟩ S (fun v S1 => v = (.agg p.1) ∧ S1 = p.2) := by
  unfold J11 at h
  rcases ifc h with ⟨hc43, h⟩ | ⟨hc43, h⟩
  · refine q_cond_t rfl (.tmp rfl) hc43 ?_
    refine q_region rfl rfl ?_
    refine qS 69 rfl (ok_move · (.tmp rfl)) ?_
    obtain ⟨p44, hp44, h⟩ := bindo h
    obtain ⟨hg45, h⟩ := gd h
    refine qS 70 rfl (ok_indexAddr_arr · ta34 sz30 (.tmp rfl) hp44 (.tmp rfl) hg45) ?_
    obtain ⟨p46, hp46, h⟩ := bindo h
    refine qS 71 rfl (ok_load_s · sc30 (.tmp rfl) rfl (ldI_out hp46)) ?_
    refine qS 72 rfl (ok_ibin · (.tmp rfl) (.int _ _) rfl) ?_
    try dsimp only [w0, w1, w2, w3]
    obtain ⟨p47, hp47, h⟩ := bindo h
    obtain ⟨hg48, h⟩ := gd h
    refine qS 73 rfl (ok_indexAddr_arr · ta34 sz30 (.tmp rfl) hp47 (.tmp rfl) hg48) ?_
    obtain ⟨p49, hp49, h⟩ := bindo h
    refine qN rfl (ok_store_s (v := (.int .u16 (ior .u16 p46 16))) · sz30 (.tmp rfl) rfl (.tmp rfl) rfl hp49) ?_
    refine hr_region_end ?_
    try dsimp only [w0, w1, w2, w3]
    try dsimp only [w0, w1, w2, w3]
    exact J12_snd hrec0 h
  · refine q_cond_f rfl (.tmp rfl) (bfalse hc43) ?_
    refine q_skipc rfl ?_
    try dsimp only [w0, w1, w2, w3]
    exact J12_snd hrec0 h
def J10 (k : Nat) (rec0 : (Option HA) → (Option HA) → Int → HS → Option (((List HV)) × HS)) (y0 : (Option HA)) (y1 : (Option HA)) (y2 : Int) (y4 : Bool) (y5 : Int) (y64 : Bool) (S : HS) : Option (((List HV)) × HS) :=
  (if y64 = true then
  J11 k rec0 y0 y1 y2 y4 y5 true S else
  (Option.bind (valid_has.f ([46, 45, 58] : List UInt8) y2) fun p66 =>
  J11 k rec0 y0 y1 y2 y4 y5 p66 S))
theorem J10_snd {k : Nat} {rec0 : (Option HA) → (Option HA) → Int → HS → Option (((List HV)) × HS)} (hrec0 : ∀ ⦃y0 : (Option HA)⦄ ⦃y1 : (Option HA)⦄ ⦃y5 : Int⦄ ⦃S : HS⦄ ⦃p : ((List HV)) × HS⦄ ⦃g2 g3 g4 g6 g7 g8 g9 g10 g11 g12 g13 g14 g15 g16 g17 g18 g19 g20 g21 g22 g23 g24 g25 g26 g27 g28 g29 g30 g31 g32 g33 g34 g35 g36 g37 g38 g39 g40 g41 g42 g43 g44 g45 g46 g47 g48 g49 g50 g51 g52 g53 g54 g55 g56 g57 g58 g59 g60 g61 g62 g63 g64 g65 g66 g67 g68 g69 g70 g71 g72 g73 g74 g75 g76 g77 g78 g79 g80 g81 g82 g83 g84 g85 g86 g87 g88 g89 g90 g91 g92 g93 : HV⦄, rec0 y0 y1 y5 S = some p → HRun Try.prog base W0 β0 34 none [.inLoop c9, .inBlock 0, .code c65] ⟨[(.ptr y0), (.ptr y1), g2, g3, g4, (.int .i64 y5), g6, g7, g8, g9, g10, g11, g12, g13, g14, g15, g16, g17, g18, g19, g20, g21, g22, g23, g24, g25, g26, g27, g28, g29, g30, g31, g32, g33, g34, g35, g36, g37, g38, g39, g40, g41, g42, g43, g44, g45, g46, g47, g48, g49, g50, g51, g52, g53, g54, g55, g56, g57, g58, g59, g60, g61, g62, g63, g64, g65, g66, g67, g68, g69, g70, g71, g72, g73, g74, g75, g76, g77, g78, g79, g80, g81, g82, g83, g84, g85, g86, g87, g88, g89, g90, g91, g92, g93], []⟩ S (fun v S1 => v = (.agg p.1) ∧ S1 = p.2)) {y0 : (Option HA)} {y1 : (Option HA)} {y2 : Int} {y4 : Bool} {y5 : Int} {y64 : Bool} {S : HS} {p : ((List HV)) × HS} {g3 g6 g7 g8 g9 g10 g11 g12 g13 g14 g15 g16 g17 g18 g19 g20 g21 g22 g23 g24 g25 g26 g27 g28 g29 g30 g31 g32 g33 g34 g35 g36 g37 g38 g39 g40 g41 g42 g43 g44 g45 g46 g47 g48 g49 g50 g51 g52 g53 g54 g55 g56 g57 g58 g59 g60 g61 g62 g63 g65 g66 g67 g68 g69 g70 g71 g72 g73 g74 g75 g76 g77 g78 g79 g80 g81 g82 g83 g84 g85 g86 g87 g88 g89 g90 g91 g92 g93 : HV} (h : J10 k rec0 y0 y1 y2 y4 y5 y64 S = some p) : HRun Try.prog base W0 β0 34 none [.inRegion r49 [5, 6, 7, 8], .code c50, .code c53, .inBlock 1, .code c64, .inLoop c9, .inBlock 0, .code c65] ⟨[(.ptr y0), (.ptr y1), (.int .i64 y2), g3, (.bool y4), (.int .i64 y5), g6, g7, g8, g9, g10, g11, g12, g13, g14, g15, g16, g17, g18, g19, g20, g21, g22, g23, g24, g25, g26, g27, g28, g29, g30, g31, g32, g33, g34, g35, g36, g37, g38, g39, g40, g41, g42, g43, g44, g45, g46, g47, g48, g49, g50, g51, g52, g53, g54, g55, g56, g57, g58, g59, g60, g61, g62, g63, (.bool y64), g65, g66, g67, g68, g69, g70, g71, g72, g73, g74, g75, g76, g77, g78, g79, g80, g81, g82, g83, g84, g85, g86, g87, g88, g89, g90, g91, g92, g93], []⟩ S (fun v S1 => v = (.agg p.1) ∧ S1 = p.2) := by
  unfold J10 at h
  refine qS 65 rfl (ok_move · (.tmp rfl)) ?_
  rcases ifc h with ⟨hc42, h⟩ | ⟨hc42, h⟩
  · refine q_skip (dst := some 66) (t := 65) rfl rfl rfl hc42 ?_
    refine q_skip (dst := some 67) (t := 65) rfl rfl rfl hc42 ?_
    try dsimp only [w0, w1, w2, w3]
    refine qS 68 rfl (ok_pick_tt · (.tmp rfl) hc42 (.bool _)) ?_
    refine hr_region_end ?_
    try dsimp only [w0, w1, w2, w3]
    try dsimp only [w0, w1, w2, w3]
    exact J11_snd hrec0 h
  · refine qG 65 66 rfl (bfalse hc42) (ok_move · (.tmp rfl)) ?_
    obtain ⟨p66, hp66, h⟩ := bindo h
    refine q_call_g (t := 65) (dst := some 67) rfl rfl rfl (bfalse hc42) (.func _) (.cons (.str _) (.cons (.tmp rfl) Evs.nil)) (HInv.static valid_has.at_ valid_has.body (valid_has.snd  hp66)) ?_
    rintro _ _ ⟨rfl, rfl⟩
    try dsimp only [w0, w1, w2, w3]
    refine qS 68 rfl (ok_pick_ff · (.tmp rfl) (bfalse hc42) (.tmp rfl)) ?_
    refine hr_region_end ?_
    try dsimp only [w0, w1, w2, w3]
    try dsimp only [w0, w1, w2, w3]
    exact J11_snd hrec0 h
def J9 (k : Nat) (rec0 : (Option HA) → (Option HA) → Int → HS → Option (((List HV)) × HS)) (y0 : (Option HA)) (y1 : (Option HA)) (y2 : Int) (y3 : Bool) (y4 : Bool) (y5 : Int) (S : HS) : Option (((List HV)) × HS) :=
  (Option.bind (valid_letter.f y2) fun p40 =>
  (if p40 = true then
  J10 k rec0 y0 y1 y2 y4 y5 true S else
  J10 k rec0 y0 y1 y2 y4 y5 y3 S))
theorem J9_snd {k : Nat} {rec0 : (Option HA) → (Option HA) → Int → HS → Option (((List HV)) × HS)} (hrec0 : ∀ ⦃y0 : (Option HA)⦄ ⦃y1 : (Option HA)⦄ ⦃y5 : Int⦄ ⦃S : HS⦄ ⦃p : ((List HV)) × HS⦄ ⦃g2 g3 g4 g6 g7 g8 g9 g10 g11 g12 g13 g14 g15 g16 g17 g18 g19 g20 g21 g22 g23 g24 g25 g26 g27 g28 g29 g30 g31 g32 g33 g34 g35 g36 g37 g38 g39 g40 g41 g42 g43 g44 g45 g46 g47 g48 g49 g50 g51 g52 g53 g54 g55 g56 g57 g58 g59 g60 g61 g62 g63 g64 g65 g66 g67 g68 g69 g70 g71 g72 g73 g74 g75 g76 g77 g78 g79 g80 g81 g82 g83 g84 g85 g86 g87 g88 g89 g90 g91 g92 g93 : HV⦄, rec0 y0 y1 y5 S = some p → HRun Try.prog base W0 β0 34 none [.inLoop c9, .inBlock 0, .code c65] ⟨[(.ptr y0), (.ptr y1), g2, g3, g4, (.int .i64 y5), g6, g7, g8, g9, g10, g11, g12, g13, g14, g15, g16, g17, g18, g19, g20, g21, g22, g23, g24, g25, g26, g27, g28, g29, g30, g31, g32, g33, g34, g35, g36, g37, g38, g39, g40, g41, g42, g43, g44, g45, g46, g47, g48, g49, g50, g51, g52, g53, g54, g55, g56, g57, g58, g59, g60, g61, g62, g63, g64, g65, g66, g67, g68, g69, g70, g71, g72, g73, g74, g75, g76, g77, g78, g79, g80, g81, g82, g83, g84, g85, g86, g87, g88, g89, g90, g91, g92, g93], []⟩ S (fun v S1 => v = (.agg p.1) ∧ S1 = p.2)) {y0 : (Option HA)} {y1 : (Option HA)} {y2 : Int} {y3 : Bool} {y4 : Bool} {y5 : Int} {S : HS} {p : ((List HV)) × HS} {g6 g7 g8 g9 g10 g11 g12 g13 g14 g15 g16 g17 g18 g19 g20 g21 g22 g23 g24 g25 g26 g27 g28 g29 g30 g31 g32 g33 g34 g35 g36 g37 g38 g39 g40 g41 g42 g43 g44 g45 g46 g47 g48 g49 g50 g51 g52 g53 g54 g55 g56 g57 g58 g59 g60 g61 g62 g63 g64 g65 g66 g67 g68 g69 g70 g71 g72 g73 g74 g75 g76 g77 g78 g79 g80 g81 g82 g83 g84 g85 g86 g87 g88 g89 g90 g91 g92 g93 : HV} (h : J9 k rec0 y0 y1 y2 y3 y4 y5 S = some p) : HRun Try.prog base W0 β0 34 none [.code c47, .inBlock 1, .code c64, .inLoop c9, .inBlock 0, .code c65] ⟨[(.ptr y0), (.ptr y1), (.int .i64 y2), (.bool y3), (.bool y4), (.int .i64 y5), g6, g7, g8, g9, g10, g11, g12, g13, g14, g15, g16, g17, g18, g19, g20, g21, g22, g23, g24, g25, g26, g27, g28, g29, g30, g31, g32, g33, g34, g35, g36, g37, g38, g39, g40, g41, g42, g43, g44, g45, g46, g47, g48, g49, g50, g51, g52, g53, g54, g55, g56, g57, g58, g59, g60, g61, g62, g63, g64, g65, g66, g67, g68, g69, g70, g71, g72, g73, g74, g75, g76, g77, g78, g79, g80, g81, g82, g83, g84, g85, g86, g87, g88, g89, g90, g91, g92, g93], []⟩ S (fun v S1 => v = (.agg p.1) ∧ S1 = p.2) := by
  unfold J9 at h
  refine q_seq rfl ?_
  refine q_seq rfl ?_
  refine q_region rfl rfl ?_
  refine qS 60 rfl (ok_move · (.tmp rfl)) ?_
  obtain ⟨p40, hp40, h⟩ := bindo h
  refine q_call (dst := some 61) rfl (.func _) (.cons (.tmp rfl) Evs.nil) (HInv.static valid_letter.at_ valid_letter.body (valid_letter.snd  hp40)) ?_
  rintro _ _ ⟨rfl, rfl⟩
  refine qS 62 rfl (ok_move · (.tmp rfl)) ?_
  rcases ifc h with ⟨hc41, h⟩ | ⟨hc41, h⟩
  · refine q_skip (dst := some 63) (t := 62) rfl rfl rfl hc41 ?_
    try dsimp only [w0, w1, w2, w3]
    refine qS 64 rfl (ok_pick_tt · (.tmp rfl) hc41 (.bool _)) ?_
    try dsimp only [w0, w1, w2, w3]
    exact J10_snd hrec0 h
  · refine qG 62 63 rfl (bfalse hc41) (ok_move · (.tmp rfl)) ?_
    try dsimp only [w0, w1, w2, w3]
    refine qS 64 rfl (ok_pick_ff · (.tmp rfl) (bfalse hc41) (.tmp rfl)) ?_
    try dsimp only [w0, w1, w2, w3]
    exact J10_snd hrec0 h
def J8 (k : Nat) (rec0 : (Option HA) → (Option HA) → Int → HS → Option (((List HV)) × HS)) (y0 : (Option HA)) (y1 : (Option HA)) (y2 : Int) (y3 : Bool) (y4 : Bool) (y5 : Int) (y54 : Bool) (S : HS) : Option (((List HV)) × HS) :=
  (if y54 = true then
  (Option.bind (y1) fun p34 =>
  (if 0 ≤ (y2 : Int) ∧ (y2 : Int) < 256 then
  (Option.bind (HS.ldI S .u16 (HA.fld p34 (Int.toNat y2))) fun p36 =>
  (Option.bind (y1) fun p37 =>
  (if 0 ≤ (y2 : Int) ∧ (y2 : Int) < 256 then
  (Option.bind (HS.sets S (HA.fld p37 (Int.toNat y2)) [(.int .u16 (ior .u16 p36 8))]) fun p39 =>
  J9 k rec0 y0 y1 y2 y3 y4 y5 p39) else none))) else none)) else
  J9 k rec0 y0 y1 y2 y3 y4 y5 S)
theorem J8_snd {k : Nat} {rec0 : (Option HA) → (Option HA) → Int → HS → Option (((List HV)) × HS)} (hrec0 : ∀ ⦃y0 : (Option HA)⦄ ⦃y1 : (Option HA)⦄ ⦃y5 : Int⦄ ⦃S : HS⦄ ⦃p : ((List HV)) × HS⦄ ⦃g2 g3 g4 g6 g7 g8 g9 g10 g11 g12 g13 g14 g15 g16 g17 g18 g19 g20 g21 g22 g23 g24 g25 g26 g27 g28 g29 g30 g31 g32 g33 g34 g35 g36 g37 g38 g39 g40 g41 g42 g43 g44 g45 g46 g47 g48 g49 g50 g51 g52 g53 g54 g55 g56 g57 g58 g59 g60 g61 g62 g63 g64 g65 g66 g67 g68 g69 g70 g71 g72 g73 g74 g75 g76 g77 g78 g79 g80 g81 g82 g83 g84 g85 g86 g87 g88 g89 g90 g91 g92 g93 : HV⦄, rec0 y0 y1 y5 S = some p → HRun Try.prog base W0 β0 34 none [.inLoop c9, .inBlock 0, .code c65] ⟨[(.ptr y0), (.ptr y1), g2, g3, g4, (.int .i64 y5), g6, g7, g8, g9, g10, g11, g12, g13, g14, g15, g16, g17, g18, g19, g20, g21, g22, g23, g24, g25, g26, g27, g28, g29, g30, g31, g32, g33, g34, g35, g36, g37, g38, g39, g40, g41, g42, g43, g44, g45, g46, g47, g48, g49, g50, g51, g52, g53, g54, g55, g56, g57, g58, g59, g60, g61, g62, g63, g64, g65, g66, g67, g68, g69, g70, g71, g72, g73, g74, g75, g76, g77, g78, g79, g80, g81, g82, g83, g84, g85, g86, g87, g88, g89, g90, g91, g92, g93], []⟩ S (fun v S1 => v = (.agg p.1) ∧ S1 = p.2)) {y0 : (Option HA)} {y1 : (Option HA)} {y2 : Int} {y3 : Bool} {y4 : Bool} {y5 : Int} {y54 : Bool} {S : HS} {p : ((List HV)) × HS} {g6 g7 g8 g9 g10 g11 g12 g13 g14 g15 g16 g17 g18 g19 g20 g21 g22 g23 g24 g25 g26 g27 g28 g29 g30 g31 g32 g33 g34 g35 g36 g37 g38 g39 g40 g41 g42 g43 g44 g45 g46 g47 g48 g49 g50 g51 g52 g53 g55 g56 g57 g58 g59 g60 g61 g62 g63 g64 g65 g66 g67 g68 g69 g70 g71 g72 g73 g74 g75 g76 g77 g78 g79 g80 g81 g82 g83 g84 g85 g86 g87 g88 g89 g90 g91 g92 g93 : HV} (h : J8 k rec0 y0 y1 y2 y3 y4 y5 y54 S = some p) : HRun Try.prog base W0 β0 34 none [.code c44, .code c47, .inBlock 1, .code c64, .inLoop c9, .inBlock 0, .code c65] ⟨[(.ptr y0), (.ptr y1), (.int .i64 y2), (.bool y3), (.bool y4), (.int .i64 y5), g6, g7, g8, g9, g10, g11, g12, g13, g14, g15, g16, g17, g18, g19, g20, g21, g22, g23, g24, g25, g26, g27, g28, g29, g30, g31, g32, g33, g34, g35, g36, g37, g38, g39, g40, g41, g42, g43, g44, g45, g46, g47, g48, g49, g50, g51, g52, g53, (.bool y54), g55, g56, g57, g58, g59, g60, g61, g62, g63, g64, g65, g66, g67, g68, g69, g70, g71, g72, g73, g74, g75, g76, g77, g78, g79, g80, g81, g82, g83, g84, g85, g86, g87, g88, g89, g90, g91, g92, g93], []⟩ S (fun v S1 => v = (.agg p.1) ∧ S1 = p.2) := by
  unfold J8 at h
  rcases ifc h with ⟨hc33, h⟩ | ⟨hc33, h⟩
  · refine q_cond_t rfl (.tmp rfl) hc33 ?_
    refine q_region rfl rfl ?_
    refine qS 55 rfl (ok_move · (.tmp rfl)) ?_
    obtain ⟨p34, hp34, h⟩ := bindo h
    obtain ⟨hg35, h⟩ := gd h
    refine qS 56 rfl (ok_indexAddr_arr · ta34 sz30 (.tmp rfl) hp34 (.tmp rfl) hg35) ?_
    obtain ⟨p36, hp36, h⟩ := bindo h
    refine qS 57 rfl (ok_load_s · sc30 (.tmp rfl) rfl (ldI_out hp36)) ?_
    refine qS 58 rfl (ok_ibin · (.tmp rfl) (.int _ _) rfl) ?_
    try dsimp only [w0, w1, w2, w3]
    obtain ⟨p37, hp37, h⟩ := bindo h
    obtain ⟨hg38, h⟩ := gd h
    refine qS 59 rfl (ok_indexAddr_arr · ta34 sz30 (.tmp rfl) hp37 (.tmp rfl) hg38) ?_
    obtain ⟨p39, hp39, h⟩ := bindo h
    refine qN rfl (ok_store_s (v := (.int .u16 (ior .u16 p36 8))) · sz30 (.tmp rfl) rfl (.tmp rfl) rfl hp39) ?_
    refine hr_region_end ?_
    try dsimp only [w0, w1, w2, w3]
    try dsimp only [w0, w1, w2, w3]
    exact J9_snd hrec0 h
  · refine q_cond_f rfl (.tmp rfl) (bfalse hc33) ?_
    refine q_skipc rfl ?_
    try dsimp only [w0, w1, w2, w3]
    exact J9_snd hrec0 h
def J7 (k : Nat) (rec0 : (Option HA) → (Option HA) → Int → HS → Option (((List HV)) × HS)) (y0 : (Option HA)) (y1 : (Option HA)) (y2 : Int) (y3 : Bool) (y4 : Bool) (y5 : Int) (S : HS) : Option (((List HV)) × HS) :=
  (if y4 = true then
  (Option.bind (valid_has.f ([33, 64, 42, 63, 58] : List UInt8) y2) fun p32 =>
  J8 k rec0 y0 y1 y2 y3 y4 y5 (!p32) S) else
  J8 k rec0 y0 y1 y2 y3 y4 y5 false S)
theorem J7_snd {k : Nat} {rec0 : (Option HA) → (Option HA) → Int → HS → Option (((List HV)) × HS)} (hrec0 : ∀ ⦃y0 : (Option HA)⦄ ⦃y1 : (Option HA)⦄ ⦃y5 : Int⦄ ⦃S : HS⦄ ⦃p : ((List HV)) × HS⦄ ⦃g2 g3 g4 g6 g7 g8 g9 g10 g11 g12 g13 g14 g15 g16 g17 g18 g19 g20 g21 g22 g23 g24 g25 g26 g27 g28 g29 g30 g31 g32 g33 g34 g35 g36 g37 g38 g39 g40 g41 g42 g43 g44 g45 g46 g47 g48 g49 g50 g51 g52 g53 g54 g55 g56 g57 g58 g59 g60 g61 g62 g63 g64 g65 g66 g67 g68 g69 g70 g71 g72 g73 g74 g75 g76 g77 g78 g79 g80 g81 g82 g83 g84 g85 g86 g87 g88 g89 g90 g91 g92 g93 : HV⦄, rec0 y0 y1 y5 S = some p → HRun Try.prog base W0 β0 34 none [.inLoop c9, .inBlock 0, .code c65] ⟨[(.ptr y0), (.ptr y1), g2, g3, g4, (.int .i64 y5), g6, g7, g8, g9, g10, g11, g12, g13, g14, g15, g16, g17, g18, g19, g20, g21, g22, g23, g24, g25, g26, g27, g28, g29, g30, g31, g32, g33, g34, g35, g36, g37, g38, g39, g40, g41, g42, g43, g44, g45, g46, g47, g48, g49, g50, g51, g52, g53, g54, g55, g56, g57, g58, g59, g60, g61, g62, g63, g64, g65, g66, g67, g68, g69, g70, g71, g72, g73, g74, g75, g76, g77, g78, g79, g80, g81, g82, g83, g84, g85, g86, g87, g88, g89, g90, g91, g92, g93], []⟩ S (fun v S1 => v = (.agg p.1) ∧ S1 = p.2)) {y0 : (Option HA)} {y1 : (Option HA)} {y2 : Int} {y3 : Bool} {y4 : Bool} {y5 : Int} {S : HS} {p : ((List HV)) × HS} {g6 g7 g8 g9 g10 g11 g12 g13 g14 g15 g16 g17 g18 g19 g20 g21 g22 g23 g24 g25 g26 g27 g28 g29 g30 g31 g32 g33 g34 g35 g36 g37 g38 g39 g40 g41 g42 g43 g44 g45 g46 g47 g48 g49 g50 g51 g52 g53 g54 g55 g56 g57 g58 g59 g60 g61 g62 g63 g64 g65 g66 g67 g68 g69 g70 g71 g72 g73 g74 g75 g76 g77 g78 g79 g80 g81 g82 g83 g84 g85 g86 g87 g88 g89 g90 g91 g92 g93 : HV} (h : J7 k rec0 y0 y1 y2 y3 y4 y5 S = some p) : HRun Try.prog base W0 β0 34 none [.code c41, .inBlock 1, .code c64, .inLoop c9, .inBlock 0, .code c65] ⟨[(.ptr y0), (.ptr y1), (.int .i64 y2), (.bool y3), (.bool y4), (.int .i64 y5), g6, g7, g8, g9, g10, g11, g12, g13, g14, g15, g16, g17, g18, g19, g20, g21, g22, g23, g24, g25, g26, g27, g28, g29, g30, g31, g32, g33, g34, g35, g36, g37, g38, g39, g40, g41, g42, g43, g44, g45, g46, g47, g48, g49, g50, g51, g52, g53, g54, g55, g56, g57, g58, g59, g60, g61, g62, g63, g64, g65, g66, g67, g68, g69, g70, g71, g72, g73, g74, g75, g76, g77, g78, g79, g80, g81, g82, g83, g84, g85, g86, g87, g88, g89, g90, g91, g92, g93], []⟩ S (fun v S1 => v = (.agg p.1) ∧ S1 = p.2) := by
  unfold J7 at h
  refine q_seq rfl ?_
  refine q_seq rfl ?_
  refine q_region rfl rfl ?_
  refine qS 49 rfl (ok_move · (.tmp rfl)) ?_
  refine qS 50 rfl (ok_move · (.tmp rfl)) ?_
  rcases ifc h with ⟨hc31, h⟩ | ⟨hc31, h⟩
  · refine qG 50 51 rfl hc31 (ok_move · (.tmp rfl)) ?_
    obtain ⟨p32, hp32, h⟩ := bindo h
    refine q_call_g (t := 50) (dst := some 52) rfl rfl rfl hc31 (.func _) (.cons (.str _) (.cons (.tmp rfl) Evs.nil)) (HInv.static valid_has.at_ valid_has.body (valid_has.snd  hp32)) ?_
    rintro _ _ ⟨rfl, rfl⟩
    try dsimp only [w0, w1, w2, w3]
    refine qG 50 53 rfl hc31 (ok_not · (.tmp rfl)) ?_
    refine qS 54 rfl (ok_pick_tt · (.tmp rfl) hc31 (.tmp rfl)) ?_
    refine hr_region_end ?_
    try dsimp only [w0, w1, w2, w3]
    try dsimp only [w0, w1, w2, w3]
    exact J8_snd hrec0 h
  · refine q_skip (dst := some 51) (t := 50) rfl rfl rfl (bfalse hc31) ?_
    refine q_skip (dst := some 52) (t := 50) rfl rfl rfl (bfalse hc31) ?_
    try dsimp only [w0, w1, w2, w3]
    refine q_skip (dst := some 53) (t := 50) rfl rfl rfl (bfalse hc31) ?_
    refine qS 54 rfl (ok_pick_ff · (.tmp rfl) (bfalse hc31) (.bool _)) ?_
    refine hr_region_end ?_
    try dsimp only [w0, w1, w2, w3]
    try dsimp only [w0, w1, w2, w3]
    exact J8_snd hrec0 h
def J6 (k : Nat) (rec0 : (Option HA) → (Option HA) → Int → HS → Option (((List HV)) × HS)) (y0 : (Option HA)) (y1 : (Option HA)) (y2 : Int) (y3 : Bool) (y4 : Bool) (y5 : Int) (S : HS) : Option (((List HV)) × HS) :=
  (Option.bind (valid_has.f ([0, 7, 10, 13, 32, 44, 58] : List UInt8) y2) fun p23 =>
  (if (!p23) = true then
  (Option.bind (y1) fun p25 =>
  (if 0 ≤ (y2 : Int) ∧ (y2 : Int) < 256 then
  (Option.bind (HS.ldI S .u16 (HA.fld p25 (Int.toNat y2))) fun p27 =>
  (Option.bind (y1) fun p28 =>
  (if 0 ≤ (y2 : Int) ∧ (y2 : Int) < 256 then
  (Option.bind (HS.sets S (HA.fld p28 (Int.toNat y2)) [(.int .u16 (ior .u16 p27 4))]) fun p30 =>
  J7 k rec0 y0 y1 y2 y3 y4 y5 p30) else none))) else none)) else
  J7 k rec0 y0 y1 y2 y3 y4 y5 S))
theorem J6_snd {k : Nat} {rec0 : (Option HA) → (Option HA) → Int → HS → Option (((List HV)) × HS)} (hrec0 : ∀ ⦃y0 : (Option HA)⦄ ⦃y1 : (Option HA)⦄ ⦃y5 : Int⦄ ⦃S : HS⦄ ⦃p : ((List HV)) × HS⦄ ⦃g2 g3 g4 g6 g7 g8 g9 g10 g11 g12 g13 g14 g15 g16 g17 g18 g19 g20 g21 g22 g23 g24 g25 g26 g27 g28 g29 g30 g31 g32 g33 g34 g35 g36 g37 g38 g39 g40 g41 g42 g43 g44 g45 g46 g47 g48 g49 g50 g51 g52 g53 g54 g55 g56 g57 g58 g59 g60 g61 g62 g63 g64 g65 g66 g67 g68 g69 g70 g71 g72 g73 g74 g75 g76 g77 g78 g79 g80 g81 g82 g83 g84 g85 g86 g87 g88 g89 g90 g91 g92 g93 : HV⦄, rec0 y0 y1 y5 S = some p → HRun Try.prog base W0 β0 34 none [.inLoop c9, .inBlock 0, .code c65] ⟨[(.ptr y0), (.ptr y1), g2, g3, g4, (.int .i64 y5), g6, g7, g8, g9, g10, g11, g12, g13, g14, g15, g16, g17, g18, g19, g20, g21, g22, g23, g24, g25, g26, g27, g28, g29, g30, g31, g32, g33, g34, g35, g36, g37, g38, g39, g40, g41, g42, g43, g44, g45, g46, g47, g48, g49, g50, g51, g52, g53, g54, g55, g56, g57, g58, g59, g60, g61, g62, g63, g64, g65, g66, g67, g68, g69, g70, g71, g72, g73, g74, g75, g76, g77, g78, g79, g80, g81, g82, g83, g84, g85, g86, g87, g88, g89, g90, g91, g92, g93], []⟩ S (fun v S1 => v = (.agg p.1) ∧ S1 = p.2)) {y0 : (Option HA)} {y1 : (Option HA)} {y2 : Int} {y3 : Bool} {y4 : Bool} {y5 : Int} {S : HS} {p : ((List HV)) × HS} {g6 g7 g8 g9 g10 g11 g12 g13 g14 g15 g16 g17 g18 g19 g20 g21 g22 g23 g24 g25 g26 g27 g28 g29 g30 g31 g32 g33 g34 g35 g36 g37 g38 g39 g40 g41 g42 g43 g44 g45 g46 g47 g48 g49 g50 g51 g52 g53 g54 g55 g56 g57 g58 g59 g60 g61 g62 g63 g64 g65 g66 g67 g68 g69 g70 g71 g72 g73 g74 g75 g76 g77 g78 g79 g80 g81 g82 g83 g84 g85 g86 g87 g88 g89 g90 g91 g92 g93 : HV} (h : J6 k rec0 y0 y1 y2 y3 y4 y5 S = some p) : HRun Try.prog base W0 β0 34 none [.code c35, .inBlock 1, .code c64, .inLoop c9, .inBlock 0, .code c65] ⟨[(.ptr y0), (.ptr y1), (.int .i64 y2), (.bool y3), (.bool y4), (.int .i64 y5), g6, g7, g8, g9, g10, g11, g12, g13, g14, g15, g16, g17, g18, g19, g20, g21, g22, g23, g24, g25, g26, g27, g28, g29, g30, g31, g32, g33, g34, g35, g36, g37, g38, g39, g40, g41, g42, g43, g44, g45, g46, g47, g48, g49, g50, g51, g52, g53, g54, g55, g56, g57, g58, g59, g60, g61, g62, g63, g64, g65, g66, g67, g68, g69, g70, g71, g72, g73, g74, g75, g76, g77, g78, g79, g80, g81, g82, g83, g84, g85, g86, g87, g88, g89, g90, g91, g92, g93], []⟩ S (fun v S1 => v = (.agg p.1) ∧ S1 = p.2) := by
  unfold J6 at h
  refine q_seq rfl ?_
  refine q_seq rfl ?_
  refine q_region rfl rfl ?_
  refine qS 41 rfl (ok_move · (.tmp rfl)) ?_
  obtain ⟨p23, hp23, h⟩ := bindo h
  refine q_call (dst := some 42) rfl (.func _) (.cons (.str _) (.cons (.tmp rfl) Evs.nil)) (HInv.static valid_has.at_ valid_has.body (valid_has.snd  hp23)) ?_
  rintro _ _ ⟨rfl, rfl⟩
  refine qS 43 rfl (ok_not · (.tmp rfl)) ?_
  refine hr_region_end ?_
  try dsimp only [w0, w1, w2, w3]
  rcases ifc h with ⟨hc24, h⟩ | ⟨hc24, h⟩
  · refine q_cond_t rfl (.tmp rfl) hc24 ?_
    refine q_region rfl rfl ?_
    refine qS 44 rfl (ok_move · (.tmp rfl)) ?_
    obtain ⟨p25, hp25, h⟩ := bindo h
    obtain ⟨hg26, h⟩ := gd h
    refine qS 45 rfl (ok_indexAddr_arr · ta34 sz30 (.tmp rfl) hp25 (.tmp rfl) hg26) ?_
    obtain ⟨p27, hp27, h⟩ := bindo h
    refine qS 46 rfl (ok_load_s · sc30 (.tmp rfl) rfl (ldI_out hp27)) ?_
    refine qS 47 rfl (ok_ibin · (.tmp rfl) (.int _ _) rfl) ?_
    try dsimp only [w0, w1, w2, w3]
    obtain ⟨p28, hp28, h⟩ := bindo h
    obtain ⟨hg29, h⟩ := gd h
    refine qS 48 rfl (ok_indexAddr_arr · ta34 sz30 (.tmp rfl) hp28 (.tmp rfl) hg29) ?_
    obtain ⟨p30, hp30, h⟩ := bindo h
    refine qN rfl (ok_store_s (v := (.int .u16 (ior .u16 p27 4))) · sz30 (.tmp rfl) rfl (.tmp rfl) rfl hp30) ?_
    refine hr_region_end ?_
    try dsimp only [w0, w1, w2, w3]
    try dsimp only [w0, w1, w2, w3]
    exact J7_snd hrec0 h
  · refine q_cond_f rfl (.tmp rfl) (bfalse hc24) ?_
    refine q_skipc rfl ?_
    try dsimp only [w0, w1, w2, w3]
    exact J7_snd hrec0 h
def J5 (k : Nat) (rec0 : (Option HA) → (Option HA) → Int → HS → Option (((List HV)) × HS)) (y0 : (Option HA)) (y1 : (Option HA)) (y2 : Int) (y3 : Bool) (y4 : Bool) (y5 : Int) (y35 : Bool) (S : HS) : Option (((List HV)) × HS) :=
  (if y35 = true then
  (Option.bind (y1) fun p17 =>
  (if 0 ≤ (y2 : Int) ∧ (y2 : Int) < 256 then
  (Option.bind (HS.ldI S .u16 (HA.fld p17 (Int.toNat y2))) fun p19 =>
  (Option.bind (y1) fun p20 =>
  (if 0 ≤ (y2 : Int) ∧ (y2 : Int) < 256 then
  (Option.bind (HS.sets S (HA.fld p20 (Int.toNat y2)) [(.int .u16 (ior .u16 p19 2))]) fun p22 =>
  J6 k rec0 y0 y1 y2 y3 y4 y5 p22) else none))) else none)) else
  J6 k rec0 y0 y1 y2 y3 y4 y5 S)
theorem J5_snd {k : Nat} {rec0 : (Option HA) → (Option HA) → Int → HS → Option (((List HV)) × HS)} (hrec0 : ∀ ⦃y0 : (Option HA)⦄ ⦃y1 : (Option HA)⦄ ⦃y5 : Int⦄ ⦃S : HS⦄ ⦃p : ((List HV)) × HS⦄ ⦃g2 g3 g4 g6 g7 g8 g9 g10 g11 g12 g13 g14 g15 g16 g17 g18 g19 g20 g21 g22 g23 g24 g25 g26 g27 g28 g29 g30 g31 g32 g33 g34 g35 g36 g37 g38 g39 g40 g41 g42 g43 g44 g45 g46 g47 g48 g49 g50 g51 g52 g53 g54 g55 g56 g57 g58 g59 g60 g61 g62 g63 g64 g65 g66 g67 g68 g69 g70 g71 g72 g73 g74 g75 g76 g77 g78 g79 g80 g81 g82 g83 g84 g85 g86 g87 g88 g89 g90 g91 g92 g93 : HV⦄, rec0 y0 y1 y5 S = some p → HRun Try.prog base W0 β0 34 none [.inLoop c9, .inBlock 0, .code c65] ⟨[(.ptr y0), (.ptr y1), g2, g3, g4, (.int .i64 y5), g6, g7, g8, g9, g10, g11, g12, g13, g14, g15, g16, g17, g18, g19, g20, g21, g22, g23, g24, g25, g26, g27, g28, g29, g30, g31, g32, g33, g34, g35, g36, g37, g38, g39, g40, g41, g42, g43, g44, g45, g46, g47, g48, g49, g50, g51, g52, g53, g54, g55, g56, g57, g58, g59, g60, g61, g62, g63, g64, g65, g66, g67, g68, g69, g70, g71, g72, g73, g74, g75, g76, g77, g78, g79, g80, g81, g82, g83, g84, g85, g86, g87, g88, g89, g90, g91, g92, g93], []⟩ S (fun v S1 => v = (.agg p.1) ∧ S1 = p.2)) {y0 : (Option HA)} {y1 : (Option HA)} {y2 : Int} {y3 : Bool} {y4 : Bool} {y5 : Int} {y35 : Bool} {S : HS} {p : ((List HV)) × HS} {g6 g7 g8 g9 g10 g11 g12 g13 g14 g15 g16 g17 g18 g19 g20 g21 g22 g23 g24 g25 g26 g27 g28 g29 g30 g31 g32 g33 g34 g36 g37 g38 g39 g40 g41 g42 g43 g44 g45 g46 g47 g48 g49 g50 g51 g52 g53 g54 g55 g56 g57 g58 g59 g60 g61 g62 g63 g64 g65 g66 g67 g68 g69 g70 g71 g72 g73 g74 g75 g76 g77 g78 g79 g80 g81 g82 g83 g84 g85 g86 g87 g88 g89 g90 g91 g92 g93 : HV} (h : J5 k rec0 y0 y1 y2 y3 y4 y5 y35 S = some p) : HRun Try.prog base W0 β0 34 none [.code c32, .code c35, .inBlock 1, .code c64, .inLoop c9, .inBlock 0, .code c65] ⟨[(.ptr y0), (.ptr y1), (.int .i64 y2), (.bool y3), (.bool y4), (.int .i64 y5), g6, g7, g8, g9, g10, g11, g12, g13, g14, g15, g16, g17, g18, g19, g20, g21, g22, g23, g24, g25, g26, g27, g28, g29, g30, g31, g32, g33, g34, (.bool y35), g36, g37, g38, g39, g40, g41, g42, g43, g44, g45, g46, g47, g48, g49, g50, g51, g52, g53, g54, g55, g56, g57, g58, g59, g60, g61, g62, g63, g64, g65, g66, g67, g68, g69, g70, g71, g72, g73, g74, g75, g76, g77, g78, g79, g80, g81, g82, g83, g84, g85, g86, g87, g88, g89, g90, g91, g92, g93], []⟩ S (fun v S1 => v = (.agg p.1) ∧ S1 = p.2) := by
  unfold J5 at h
  rcases ifc h with ⟨hc16, h⟩ | ⟨hc16, h⟩
  · refine q_cond_t rfl (.tmp rfl) hc16 ?_
    refine q_region rfl rfl ?_
    refine qS 36 rfl (ok_move · (.tmp rfl)) ?_
    obtain ⟨p17, hp17, h⟩ := bindo h
    obtain ⟨hg18, h⟩ := gd h
    refine qS 37 rfl (ok_indexAddr_arr · ta34 sz30 (.tmp rfl) hp17 (.tmp rfl) hg18) ?_
    obtain ⟨p19, hp19, h⟩ := bindo h
    refine qS 38 rfl (ok_load_s · sc30 (.tmp rfl) rfl (ldI_out hp19)) ?_
    refine qS 39 rfl (ok_ibin · (.tmp rfl) (.int _ _) rfl) ?_
    try dsimp only [w0, w1, w2, w3]
    obtain ⟨p20, hp20, h⟩ := bindo h
    obtain ⟨hg21, h⟩ := gd h
    refine qS 40 rfl (ok_indexAddr_arr · ta34 sz30 (.tmp rfl) hp20 (.tmp rfl) hg21) ?_
    obtain ⟨p22, hp22, h⟩ := bindo h
    refine qN rfl (ok_store_s (v := (.int .u16 (ior .u16 p19 2))) · sz30 (.tmp rfl) rfl (.tmp rfl) rfl hp22) ?_
    refine hr_region_end ?_
    try dsimp only [w0, w1, w2, w3]
    try dsimp only [w0, w1, w2, w3]
    exact J6_snd hrec0 h
  · refine q_cond_f rfl (.tmp rfl) (bfalse hc16) ?_
    refine q_skipc rfl ?_
    try dsimp only [w0, w1, w2, w3]
    exact J6_snd hrec0 h
def J4 (k : Nat) (rec0 : (Option HA) → (Option HA) → Int → HS → Option (((List HV)) × HS)) (y0 : (Option HA)) (y1 : (Option HA)) (y2 : Int) (y3 : Bool) (y4 : Bool) (y5 : Int) (S : HS) : Option (((List HV)) × HS) :=
  (if y3 = true then
  J5 k rec0 y0 y1 y2 y3 y4 y5 true S else
  J5 k rec0 y0 y1 y2 y3 y4 y5 (decide (y2 = 45)) S)
theorem J4_snd {k : Nat} {rec0 : (Option HA) → (Option HA) → Int → HS → Option (((List HV)) × HS)} (hrec0 : ∀ ⦃y0 : (Option HA)⦄ ⦃y1 : (Option HA)⦄ ⦃y5 : Int⦄ ⦃S : HS⦄ ⦃p : ((List HV)) × HS⦄ ⦃g2 g3 g4 g6 g7 g8 g9 g10 g11 g12 g13 g14 g15 g16 g17 g18 g19 g20 g21 g22 g23 g24 g25 g26 g27 g28 g29 g30 g31 g32 g33 g34 g35 g36 g37 g38 g39 g40 g41 g42 g43 g44 g45 g46 g47 g48 g49 g50 g51 g52 g53 g54 g55 g56 g57 g58 g59 g60 g61 g62 g63 g64 g65 g66 g67 g68 g69 g70 g71 g72 g73 g74 g75 g76 g77 g78 g79 g80 g81 g82 g83 g84 g85 g86 g87 g88 g89 g90 g91 g92 g93 : HV⦄, rec0 y0 y1 y5 S = some p → HRun Try.prog base W0 β0 34 none [.inLoop c9, .inBlock 0, .code c65] ⟨[(.ptr y0), (.ptr y1), g2, g3, g4, (.int .i64 y5), g6, g7, g8, g9, g10, g11, g12, g13, g14, g15, g16, g17, g18, g19, g20, g21, g22, g23, g24, g25, g26, g27, g28, g29, g30, g31, g32, g33, g34, g35, g36, g37, g38, g39, g40, g41, g42, g43, g44, g45, g46, g47, g48, g49, g50, g51, g52, g53, g54, g55, g56, g57, g58, g59, g60, g61, g62, g63, g64, g65, g66, g67, g68, g69, g70, g71, g72, g73, g74, g75, g76, g77, g78, g79, g80, g81, g82, g83, g84, g85, g86, g87, g88, g89, g90, g91, g92, g93], []⟩ S (fun v S1 => v = (.agg p.1) ∧ S1 = p.2)) {y0 : (Option HA)} {y1 : (Option HA)} {y2 : Int} {y3 : Bool} {y4 : Bool} {y5 : Int} {S : HS} {p : ((List HV)) × HS} {g6 g7 g8 g9 g10 g11 g12 g13 g14 g15 g16 g17 g18 g19 g20 g21 g22 g23 g24 g25 g26 g27 g28 g29 g30 g31 g32 g33 g34 g35 g36 g37 g38 g39 g40 g41 g42 g43 g44 g45 g46 g47 g48 g49 g50 g51 g52 g53 g54 g55 g56 g57 g58 g59 g60 g61 g62 g63 g64 g65 g66 g67 g68 g69 g70 g71 g72 g73 g74 g75 g76 g77 g78 g79 g80 g81 g82 g83 g84 g85 g86 g87 g88 g89 g90 g91 g92 g93 : HV} (h : J4 k rec0 y0 y1 y2 y3 y4 y5 S = some p) : HRun Try.prog base W0 β0 34 none [.code c29, .inBlock 1, .code c64, .inLoop c9, .inBlock 0, .code c65] ⟨[(.ptr y0), (.ptr y1), (.int .i64 y2), (.bool y3), (.bool y4), (.int .i64 y5), g6, g7, g8, g9, g10, g11, g12, g13, g14, g15, g16, g17, g18, g19, g20, g21, g22, g23, g24, g25, g26, g27, g28, g29, g30, g31, g32, g33, g34, g35, g36, g37, g38, g39, g40, g41, g42, g43, g44, g45, g46, g47, g48, g49, g50, g51, g52, g53, g54, g55, g56, g57, g58, g59, g60, g61, g62, g63, g64, g65, g66, g67, g68, g69, g70, g71, g72, g73, g74, g75, g76, g77, g78, g79, g80, g81, g82, g83, g84, g85, g86, g87, g88, g89, g90, g91, g92, g93], []⟩ S (fun v S1 => v = (.agg p.1) ∧ S1 = p.2) := by
  unfold J4 at h
  refine q_seq rfl ?_
  refine q_seq rfl ?_
  refine q_region rfl rfl ?_
  refine qS 31 rfl (ok_move · (.tmp rfl)) ?_
  refine qS 32 rfl (ok_move · (.tmp rfl)) ?_
  rcases ifc h with ⟨hc15, h⟩ | ⟨hc15, h⟩
  · refine q_skip (dst := some 33) (t := 32) rfl rfl rfl hc15 ?_
    refine q_skip (dst := some 34) (t := 32) rfl rfl rfl hc15 ?_
    try dsimp only [w0, w1, w2, w3]
    refine qS 35 rfl (ok_pick_tt · (.tmp rfl) hc15 (.bool _)) ?_
    refine hr_region_end ?_
    try dsimp only [w0, w1, w2, w3]
    try dsimp only [w0, w1, w2, w3]
    exact J5_snd hrec0 h
  · refine qG 32 33 rfl (bfalse hc15) (ok_move · (.tmp rfl)) ?_
    refine qG 32 34 rfl (bfalse hc15) (ok_ibin · (.tmp rfl) (.int _ _) rfl) ?_
    try dsimp only [w0, w1, w2, w3]
    refine qS 35 rfl (ok_pick_ff · (.tmp rfl) (bfalse hc15) (.tmp rfl)) ?_
    refine hr_region_end ?_
    try dsimp only [w0, w1, w2, w3]
    try dsimp only [w0, w1, w2, w3]
    exact J5_snd hrec0 h
def J3 (k : Nat) (rec0 : (Option HA) → (Option HA) → Int → HS → Option (((List HV)) × HS)) (y0 : (Option HA)) (y1 : (Option HA)) (y2 : Int) (y3 : Bool) (y4 : Bool) (y5 : Int) (y25 : Bool) (S : HS) : Option (((List HV)) × HS) :=
  (if y25 = true then
  (Option.bind (y1) fun p9 =>
  (if 0 ≤ (y2 : Int) ∧ (y2 : Int) < 256 then
  (Option.bind (HS.ldI S .u16 (HA.fld p9 (Int.toNat y2))) fun p11 =>
  (Option.bind (y1) fun p12 =>
  (if 0 ≤ (y2 : Int) ∧ (y2 : Int) < 256 then
  (Option.bind (HS.sets S (HA.fld p12 (Int.toNat y2)) [(.int .u16 (ior .u16 p11 3))]) fun p14 =>
  J4 k rec0 y0 y1 y2 y3 y4 y5 p14) else none))) else none)) else
  J4 k rec0 y0 y1 y2 y3 y4 y5 S)
theorem J3_snd {k : Nat} {rec0 : (Option HA) → (Option HA) → Int → HS → Option (((List HV)) × HS)} (hrec0 : ∀ ⦃y0 : (Option HA)⦄ ⦃y1 : (Option HA)⦄ ⦃y5 : Int⦄ ⦃S : HS⦄ ⦃p : ((List HV)) × HS⦄ ⦃g2 g3 g4 g6 g7 g8 g9 g10 g11 g12 g13 g14 g15 g16 g17 g18 g19 g20 g21 g22 g23 g24 g25 g26 g27 g28 g29 g30 g31 g32 g33 g34 g35 g36 g37 g38 g39 g40 g41 g42 g43 g44 g45 g46 g47 g48 g49 g50 g51 g52 g53 g54 g55 g56 g57 g58 g59 g60 g61 g62 g63 g64 g65 g66 g67 g68 g69 g70 g71 g72 g73 g74 g75 g76 g77 g78 g79 g80 g81 g82 g83 g84 g85 g86 g87 g88 g89 g90 g91 g92 g93 : HV⦄, rec0 y0 y1 y5 S = some p → HRun Try.prog base W0 β0 34 none [.inLoop c9, .inBlock 0, .code c65] ⟨[(.ptr y0), (.ptr y1), g2, g3, g4, (.int .i64 y5), g6, g7, g8, g9, g10, g11, g12, g13, g14, g15, g16, g17, g18, g19, g20, g21, g22, g23, g24, g25, g26, g27, g28, g29, g30, g31, g32, g33, g34, g35, g36, g37, g38, g39, g40, g41, g42, g43, g44, g45, g46, g47, g48, g49, g50, g51, g52, g53, g54, g55, g56, g57, g58, g59, g60, g61, g62, g63, g64, g65, g66, g67, g68, g69, g70, g71, g72, g73, g74, g75, g76, g77, g78, g79, g80, g81, g82, g83, g84, g85, g86, g87, g88, g89, g90, g91, g92, g93], []⟩ S (fun v S1 => v = (.agg p.1) ∧ S1 = p.2)) {y0 : (Option HA)} {y1 : (Option HA)} {y2 : Int} {y3 : Bool} {y4 : Bool} {y5 : Int} {y25 : Bool} {S : HS} {p : ((List HV)) × HS} {g6 g7 g8 g9 g10 g11 g12 g13 g14 g15 g16 g17 g18 g19 g20 g21 g22 g23 g24 g26 g27 g28 g29 g30 g31 g32 g33 g34 g35 g36 g37 g38 g39 g40 g41 g42 g43 g44 g45 g46 g47 g48 g49 g50 g51 g52 g53 g54 g55 g56 g57 g58 g59 g60 g61 g62 g63 g64 g65 g66 g67 g68 g69 g70 g71 g72 g73 g74 g75 g76 g77 g78 g79 g80 g81 g82 g83 g84 g85 g86 g87 g88 g89 g90 g91 g92 g93 : HV} (h : J3 k rec0 y0 y1 y2 y3 y4 y5 y25 S = some p) : HRun Try.prog base W0 β0 34 none [.code c26, .code c29, .inBlock 1, .code c64, .inLoop c9, .inBlock 0, .code c65] ⟨[(.ptr y0), (.ptr y1), (.int .i64 y2), (.bool y3), (.bool y4), (.int .i64 y5), g6, g7, g8, g9, g10, g11, g12, g13, g14, g15, g16, g17, g18, g19, g20, g21, g22, g23, g24, (.bool y25), g26, g27, g28, g29, g30, g31, g32, g33, g34, g35, g36, g37, g38, g39, g40, g41, g42, g43, g44, g45, g46, g47, g48, g49, g50, g51, g52, g53, g54, g55, g56, g57, g58, g59, g60, g61, g62, g63, g64, g65, g66, g67, g68, g69, g70, g71, g72, g73, g74, g75, g76, g77, g78, g79, g80, g81, g82, g83, g84, g85, g86, g87, g88, g89, g90, g91, g92, g93], []⟩ S (fun v S1 => v = (.agg p.1) ∧ S1 = p.2) := by
  unfold J3 at h
  rcases ifc h with ⟨hc8, h⟩ | ⟨hc8, h⟩
  · refine q_cond_t rfl (.tmp rfl) hc8 ?_
    refine q_region rfl rfl ?_
    refine qS 26 rfl (ok_move · (.tmp rfl)) ?_
    obtain ⟨p9, hp9, h⟩ := bindo h
    obtain ⟨hg10, h⟩ := gd h
    refine qS 27 rfl (ok_indexAddr_arr · ta34 sz30 (.tmp rfl) hp9 (.tmp rfl) hg10) ?_
    obtain ⟨p11, hp11, h⟩ := bindo h
    refine qS 28 rfl (ok_load_s · sc30 (.tmp rfl) rfl (ldI_out hp11)) ?_
    refine qS 29 rfl (ok_ibin · (.tmp rfl) (.int _ _) rfl) ?_
    try dsimp only [w0, w1, w2, w3]
    obtain ⟨p12, hp12, h⟩ := bindo h
    obtain ⟨hg13, h⟩ := gd h
    refine qS 30 rfl (ok_indexAddr_arr · ta34 sz30 (.tmp rfl) hp12 (.tmp rfl) hg13) ?_
    obtain ⟨p14, hp14, h⟩ := bindo h
    refine qN rfl (ok_store_s (v := (.int .u16 (ior .u16 p11 3))) · sz30 (.tmp rfl) rfl (.tmp rfl) rfl hp14) ?_
    refine hr_region_end ?_
    try dsimp only [w0, w1, w2, w3]
    try dsimp only [w0, w1, w2, w3]
    exact J4_snd hrec0 h
  · refine q_cond_f rfl (.tmp rfl) (bfalse hc8) ?_
    refine q_skipc rfl ?_
    try dsimp only [w0, w1, w2, w3]
    exact J4_snd hrec0 h
def J2 (k : Nat) (rec0 : (Option HA) → (Option HA) → Int → HS → Option (((List HV)) × HS)) (y0 : (Option HA)) (y1 : (Option HA)) (y2 : Int) (y3 : Bool) (y5 : Int) (y19 : Bool) (S : HS) : Option (((List HV)) × HS) :=
  (Option.bind (valid_letter.f y2) fun p6 =>
  (if p6 = true then
  J3 k rec0 y0 y1 y2 y3 y19 y5 true S else
  (Option.bind (valid_has.f ([91, 93, 92, 95, 94, 123, 124, 125, 96] : List UInt8) y2) fun p67 =>
  J3 k rec0 y0 y1 y2 y3 y19 y5 p67 S)))
theorem J2_snd {k : Nat} {rec0 : (Option HA) → (Option HA) → Int → HS → Option (((List HV)) × HS)} (hrec0 : ∀ ⦃y0 : (Option HA)⦄ ⦃y1 : (Option HA)⦄ ⦃y5 : Int⦄ ⦃S : HS⦄ ⦃p : ((List HV)) × HS⦄ ⦃g2 g3 g4 g6 g7 g8 g9 g10 g11 g12 g13 g14 g15 g16 g17 g18 g19 g20 g21 g22 g23 g24 g25 g26 g27 g28 g29 g30 g31 g32 g33 g34 g35 g36 g37 g38 g39 g40 g41 g42 g43 g44 g45 g46 g47 g48 g49 g50 g51 g52 g53 g54 g55 g56 g57 g58 g59 g60 g61 g62 g63 g64 g65 g66 g67 g68 g69 g70 g71 g72 g73 g74 g75 g76 g77 g78 g79 g80 g81 g82 g83 g84 g85 g86 g87 g88 g89 g90 g91 g92 g93 : HV⦄, rec0 y0 y1 y5 S = some p → HRun Try.prog base W0 β0 34 none [.inLoop c9, .inBlock 0, .code c65] ⟨[(.ptr y0), (.ptr y1), g2, g3, g4, (.int .i64 y5), g6, g7, g8, g9, g10, g11, g12, g13, g14, g15, g16, g17, g18, g19, g20, g21, g22, g23, g24, g25, g26, g27, g28, g29, g30, g31, g32, g33, g34, g35, g36, g37, g38, g39, g40, g41, g42, g43, g44, g45, g46, g47, g48, g49, g50, g51, g52, g53, g54, g55, g56, g57, g58, g59, g60, g61, g62, g63, g64, g65, g66, g67, g68, g69, g70, g71, g72, g73, g74, g75, g76, g77, g78, g79, g80, g81, g82, g83, g84, g85, g86, g87, g88, g89, g90, g91, g92, g93], []⟩ S (fun v S1 => v = (.agg p.1) ∧ S1 = p.2)) {y0 : (Option HA)} {y1 : (Option HA)} {y2 : Int} {y3 : Bool} {y5 : Int} {y19 : Bool} {S : HS} {p : ((List HV)) × HS} {g4 g6 g7 g8 g9 g10 g11 g12 g13 g14 g15 g16 g17 g18 g20 g21 g22 g23 g24 g25 g26 g27 g28 g29 g30 g31 g32 g33 g34 g35 g36 g37 g38 g39 g40 g41 g42 g43 g44 g45 g46 g47 g48 g49 g50 g51 g52 g53 g54 g55 g56 g57 g58 g59 g60 g61 g62 g63 g64 g65 g66 g67 g68 g69 g70 g71 g72 g73 g74 g75 g76 g77 g78 g79 g80 g81 g82 g83 g84 g85 g86 g87 g88 g89 g90 g91 g92 g93 : HV} (h : J2 k rec0 y0 y1 y2 y3 y5 y19 S = some p) : HRun Try.prog base W0 β0 34 none [.inRegion r22 [6], .code c23, .inBlock 1, .code c64, .inLoop c9, .inBlock 0, .code c65] ⟨[(.ptr y0), (.ptr y1), (.int .i64 y2), (.bool y3), g4, (.int .i64 y5), g6, g7, g8, g9, g10, g11, g12, g13, g14, g15, g16, g17, g18, (.bool y19), g20, g21, g22, g23, g24, g25, g26, g27, g28, g29, g30, g31, g32, g33, g34, g35, g36, g37, g38, g39, g40, g41, g42, g43, g44, g45, g46, g47, g48, g49, g50, g51, g52, g53, g54, g55, g56, g57, g58, g59, g60, g61, g62, g63, g64, g65, g66, g67, g68, g69, g70, g71, g72, g73, g74, g75, g76, g77, g78, g79, g80, g81, g82, g83, g84, g85, g86, g87, g88, g89, g90, g91, g92, g93], []⟩ S (fun v S1 => v = (.agg p.1) ∧ S1 = p.2) := by
  unfold J2 at h
  refine qS 4 rfl (ok_assign · (.tmp rfl)) ?_
  refine hr_region_end ?_
  try dsimp only [w0, w1, w2, w3]
  refine q_seq rfl ?_
  refine q_seq rfl ?_
  refine q_region rfl rfl ?_
  refine qS 20 rfl (ok_move · (.tmp rfl)) ?_
  obtain ⟨p6, hp6, h⟩ := bindo h
  refine q_call (dst := some 21) rfl (.func _) (.cons (.tmp rfl) Evs.nil) (HInv.static valid_letter.at_ valid_letter.body (valid_letter.snd  hp6)) ?_
  rintro _ _ ⟨rfl, rfl⟩
  refine qS 22 rfl (ok_move · (.tmp rfl)) ?_
  rcases ifc h with ⟨hc7, h⟩ | ⟨hc7, h⟩
  · refine q_skip (dst := some 23) (t := 22) rfl rfl rfl hc7 ?_
    try dsimp only [w0, w1, w2, w3]
    refine q_skip (dst := some 24) (t := 22) rfl rfl rfl hc7 ?_
    refine qS 25 rfl (ok_pick_tt · (.tmp rfl) hc7 (.bool _)) ?_
    refine hr_region_end ?_
    try dsimp only [w0, w1, w2, w3]
    try dsimp only [w0, w1, w2, w3]
    exact J3_snd hrec0 h
  · refine qG 22 23 rfl (bfalse hc7) (ok_move · (.tmp rfl)) ?_
    try dsimp only [w0, w1, w2, w3]
    obtain ⟨p67, hp67, h⟩ := bindo h
    refine q_call_g (t := 22) (dst := some 24) rfl rfl rfl (bfalse hc7) (.func _) (.cons (.str _) (.cons (.tmp rfl) Evs.nil)) (HInv.static valid_has.at_ valid_has.body (valid_has.snd  hp67)) ?_
    rintro _ _ ⟨rfl, rfl⟩
    refine qS 25 rfl (ok_pick_ff · (.tmp rfl) (bfalse hc7) (.tmp rfl)) ?_
    refine hr_region_end ?_
    try dsimp only [w0, w1, w2, w3]
    try dsimp only [w0, w1, w2, w3]
    exact J3_snd hrec0 h
def J1 (k : Nat) (rec0 : (Option HA) → (Option HA) → Int → HS → Option (((List HV)) × HS)) (y0 : (Option HA)) (y1 : (Option HA)) (y2 : Int) (y5 : Int) (y13 : Bool) (S : HS) : Option (((List HV)) × HS) :=
  (if y2 ≥ 33 then
  J2 k rec0 y0 y1 y2 y13 y5 (decide (y2 ≤ 126)) S else
  J2 k rec0 y0 y1 y2 y13 y5 false S)
theorem J1_snd {k : Nat} {rec0 : (Option HA) → (Option HA) → Int → HS → Option (((List HV)) × HS)} (hrec0 : ∀ ⦃y0 : (Option HA)⦄ ⦃y1 : (Option HA)⦄ ⦃y5 : Int⦄ ⦃S : HS⦄ ⦃p : ((List HV)) × HS⦄ ⦃g2 g3 g4 g6 g7 g8 g9 g10 g11 g12 g13 g14 g15 g16 g17 g18 g19 g20 g21 g22 g23 g24 g25 g26 g27 g28 g29 g30 g31 g32 g33 g34 g35 g36 g37 g38 g39 g40 g41 g42 g43 g44 g45 g46 g47 g48 g49 g50 g51 g52 g53 g54 g55 g56 g57 g58 g59 g60 g61 g62 g63 g64 g65 g66 g67 g68 g69 g70 g71 g72 g73 g74 g75 g76 g77 g78 g79 g80 g81 g82 g83 g84 g85 g86 g87 g88 g89 g90 g91 g92 g93 : HV⦄, rec0 y0 y1 y5 S = some p → HRun Try.prog base W0 β0 34 none [.inLoop c9, .inBlock 0, .code c65] ⟨[(.ptr y0), (.ptr y1), g2, g3, g4, (.int .i64 y5), g6, g7, g8, g9, g10, g11, g12, g13, g14, g15, g16, g17, g18, g19, g20, g21, g22, g23, g24, g25, g26, g27, g28, g29, g30, g31, g32, g33, g34, g35, g36, g37, g38, g39, g40, g41, g42, g43, g44, g45, g46, g47, g48, g49, g50, g51, g52, g53, g54, g55, g56, g57, g58, g59, g60, g61, g62, g63, g64, g65, g66, g67, g68, g69, g70, g71, g72, g73, g74, g75, g76, g77, g78, g79, g80, g81, g82, g83, g84, g85, g86, g87, g88, g89, g90, g91, g92, g93], []⟩ S (fun v S1 => v = (.agg p.1) ∧ S1 = p.2)) {y0 : (Option HA)} {y1 : (Option HA)} {y2 : Int} {y5 : Int} {y13 : Bool} {S : HS} {p : ((List HV)) × HS} {g3 g4 g6 g7 g8 g9 g10 g11 g12 g14 g15 g16 g17 g18 g19 g20 g21 g22 g23 g24 g25 g26 g27 g28 g29 g30 g31 g32 g33 g34 g35 g36 g37 g38 g39 g40 g41 g42 g43 g44 g45 g46 g47 g48 g49 g50 g51 g52 g53 g54 g55 g56 g57 g58 g59 g60 g61 g62 g63 g64 g65 g66 g67 g68 g69 g70 g71 g72 g73 g74 g75 g76 g77 g78 g79 g80 g81 g82 g83 g84 g85 g86 g87 g88 g89 g90 g91 g92 g93 : HV} (h : J1 k rec0 y0 y1 y2 y5 y13 S = some p) : HRun Try.prog base W0 β0 34 none [.inRegion r20 [6], .code c21, .inBlock 1, .code c64, .inLoop c9, .inBlock 0, .code c65] ⟨[(.ptr y0), (.ptr y1), (.int .i64 y2), g3, g4, (.int .i64 y5), g6, g7, g8, g9, g10, g11, g12, (.bool y13), g14, g15, g16, g17, g18, g19, g20, g21, g22, g23, g24, g25, g26, g27, g28, g29, g30, g31, g32, g33, g34, g35, g36, g37, g38, g39, g40, g41, g42, g43, g44, g45, g46, g47, g48, g49, g50, g51, g52, g53, g54, g55, g56, g57, g58, g59, g60, g61, g62, g63, g64, g65, g66, g67, g68, g69, g70, g71, g72, g73, g74, g75, g76, g77, g78, g79, g80, g81, g82, g83, g84, g85, g86, g87, g88, g89, g90, g91, g92, g93], []⟩ S (fun v S1 => v = (.agg p.1) ∧ S1 = p.2) := by
  unfold J1 at h
  refine qS 3 rfl (ok_assign · (.tmp rfl)) ?_
  refine hr_region_end ?_
  try dsimp only [w0, w1, w2, w3]
  refine q_seq rfl ?_
  refine q_region rfl rfl ?_
  refine qS 14 rfl (ok_move · (.tmp rfl)) ?_
  refine qS 15 rfl (ok_ibin · (.tmp rfl) (.int _ _) rfl) ?_
  refine qS 16 rfl (ok_move · (.tmp rfl)) ?_
  rcases ifc h with ⟨hc5, h⟩ | ⟨hc5, h⟩
  · refine qG 16 17 rfl (decide_eq_true hc5) (ok_move · (.tmp rfl)) ?_
    try dsimp only [w0, w1, w2, w3]
    refine qG 16 18 rfl (decide_eq_true hc5) (ok_ibin · (.tmp rfl) (.int _ _) rfl) ?_
    refine qS 19 rfl (ok_pick_tt · (.tmp rfl) (decide_eq_true hc5) (.tmp rfl)) ?_
    try dsimp only [w0, w1, w2, w3]
    exact J2_snd hrec0 h
  · refine q_skip (dst := some 17) (t := 16) rfl rfl rfl (decide_eq_false hc5) ?_
    try dsimp only [w0, w1, w2, w3]
    refine q_skip (dst := some 18) (t := 16) rfl rfl rfl (decide_eq_false hc5) ?_
    refine qS 19 rfl (ok_pick_ff · (.tmp rfl) (decide_eq_false hc5) (.bool _)) ?_
    try dsimp only [w0, w1, w2, w3]
    exact J2_snd hrec0 h
def L0 (k : Nat) : Nat → (Option HA) → (Option HA) → Int → HS → Option (((List HV)) × HS)
  | 0, _, _, _, _ => none
  | n + 1, y0, y1, y5, S =>
    (if y5 < 256 then
    (if y5 ≥ 48 then
    J1 k (L0 k n) y0 y1 y5 y5 (decide (y5 ≤ 57)) S else
    J1 k (L0 k n) y0 y1 y5 y5 false S) else
    (Option.bind (y1) fun p68 =>
    (Option.bind (HS.gets S p68 256) fun p69 =>
    (Option.bind (y0) fun p70 =>
    (if List.length p69 = 256 ∧ List.all p69 HV.flat = true then
    (Option.bind (HS.sets S p70 p69) fun p72 =>
    (Option.bind (y0) fun p73 =>
    (Option.bind (HS.gets p72 p73 256) fun p74 =>
    some (p74, p72)))) else none)))))
theorem L0_snd {k : Nat}  : ∀ {n : Nat} ⦃y0 : (Option HA)⦄ ⦃y1 : (Option HA)⦄ ⦃y5 : Int⦄ ⦃S : HS⦄ ⦃p : ((List HV)) × HS⦄ ⦃g2 g3 g4 g6 g7 g8 g9 g10 g11 g12 g13 g14 g15 g16 g17 g18 g19 g20 g21 g22 g23 g24 g25 g26 g27 g28 g29 g30 g31 g32 g33 g34 g35 g36 g37 g38 g39 g40 g41 g42 g43 g44 g45 g46 g47 g48 g49 g50 g51 g52 g53 g54 g55 g56 g57 g58 g59 g60 g61 g62 g63 g64 g65 g66 g67 g68 g69 g70 g71 g72 g73 g74 g75 g76 g77 g78 g79 g80 g81 g82 g83 g84 g85 g86 g87 g88 g89 g90 g91 g92 g93 : HV⦄, L0 k n y0 y1 y5 S = some p → HRun Try.prog base W0 β0 34 none [.inLoop c9, .inBlock 0, .code c65] ⟨[(.ptr y0), (.ptr y1), g2, g3, g4, (.int .i64 y5), g6, g7, g8, g9, g10, g11, g12, g13, g14, g15, g16, g17, g18, g19, g20, g21, g22, g23, g24, g25, g26, g27, g28, g29, g30, g31, g32, g33, g34, g35, g36, g37, g38, g39, g40, g41, g42, g43, g44, g45, g46, g47, g48, g49, g50, g51, g52, g53, g54, g55, g56, g57, g58, g59, g60, g61, g62, g63, g64, g65, g66, g67, g68, g69, g70, g71, g72, g73, g74, g75, g76, g77, g78, g79, g80, g81, g82, g83, g84, g85, g86, g87, g88, g89, g90, g91, g92, g93], []⟩ S (fun v S1 => v = (.agg p.1) ∧ S1 = p.2) := by
  intro n
  induction n with
  | zero => intro _ _ _ _ _ _ _ _ _ _ _ _ _ _ _ _ _ _ _ _ _ _ _ _ _ _ _ _ _ _ _ _ _ _ _ _ _ _ _ _ _ _ _ _ _ _ _ _ _ _ _ _ _ _ _ _ _ _ _ _ _ _ _ _ _ _ _ _ _ _ _ _ _ _ _ _ _ _ _ _ _ _ _ _ _ _ _ _ _ _ _ _ _ _ _ _ h; cases h
  | succ n ih =>
    intro y0 y1 y5 S p g2 g3 g4 g6 g7 g8 g9 g10 g11 g12 g13 g14 g15 g16 g17 g18 g19 g20 g21 g22 g23 g24 g25 g26 g27 g28 g29 g30 g31 g32 g33 g34 g35 g36 g37 g38 g39 g40 g41 g42 g43 g44 g45 g46 g47 g48 g49 g50 g51 g52 g53 g54 g55 g56 g57 g58 g59 g60 g61 g62 g63 g64 g65 g66 g67 g68 g69 g70 g71 g72 g73 g74 g75 g76 g77 g78 g79 g80 g81 g82 g83 g84 g85 g86 g87 g88 g89 g90 g91 g92 g93 h
    simp only [L0] at h
    refine hr_inLoop ?_
    refine q_seq rfl ?_
    refine q_region rfl rfl ?_
    refine qS 6 rfl (ok_ibin · (.tmp rfl) (.int _ _) rfl) ?_
    refine hr_region_end ?_
    try dsimp only [w0, w1, w2, w3]
    refine q_seq rfl ?_
    rcases ifc h with ⟨hc3, h⟩ | ⟨hc3, h⟩
    · refine q_cond_t rfl (.tmp rfl) (decide_eq_true hc3) ?_
      refine q_skipc rfl ?_
      refine q_seq rfl ?_
      refine q_block rfl ?_
      refine q_seq rfl ?_
      refine q_region rfl rfl ?_
      refine qS 7 rfl (ok_move · (.tmp rfl)) ?_
      refine qS 2 rfl (ok_assign · (.tmp rfl)) ?_
      refine hr_region_end ?_
      try dsimp only [w0, w1, w2, w3]
      refine q_seq rfl ?_
      refine q_region rfl rfl ?_
      refine qS 8 rfl (ok_move · (.tmp rfl)) ?_
      refine qS 9 rfl (ok_ibin · (.tmp rfl) (.int _ _) rfl) ?_
      refine qS 10 rfl (ok_move · (.tmp rfl)) ?_
      rcases ifc h with ⟨hc4, h⟩ | ⟨hc4, h⟩
      · refine qG 10 11 rfl (decide_eq_true hc4) (ok_move · (.tmp rfl)) ?_
        try dsimp only [w0, w1, w2, w3]
        refine qG 10 12 rfl (decide_eq_true hc4) (ok_ibin · (.tmp rfl) (.int _ _) rfl) ?_
        refine qS 13 rfl (ok_pick_tt · (.tmp rfl) (decide_eq_true hc4) (.tmp rfl)) ?_
        try dsimp only [w0, w1, w2, w3]
        exact J1_snd ih h
      · refine q_skip (dst := some 11) (t := 10) rfl rfl rfl (decide_eq_false hc4) ?_
        try dsimp only [w0, w1, w2, w3]
        refine q_skip (dst := some 12) (t := 10) rfl rfl rfl (decide_eq_false hc4) ?_
        refine qS 13 rfl (ok_pick_ff · (.tmp rfl) (decide_eq_false hc4) (.bool _)) ?_
        try dsimp only [w0, w1, w2, w3]
        exact J1_snd ih h
    · refine q_cond_f rfl (.tmp rfl) (decide_eq_false hc3) ?_
      refine q_exit rfl rfl ?_
      refine q_seq rfl ?_
      refine q_region rfl rfl ?_
      obtain ⟨p68, hp68, h⟩ := bindo h
      obtain ⟨p69, hp69, h⟩ := bindo h
      refine qS 93 rfl (ok_load_arr · ia34 (.tmp rfl) hp68 hp69) ?_
      obtain ⟨p70, hp70, h⟩ := bindo h
      obtain ⟨hg71, h⟩ := gd h
      obtain ⟨p72, hp72, h⟩ := bindo h
      refine qN rfl (ok_store_arr · sz34 (.tmp rfl) hp70 (.tmp rfl) hg71 hp72) ?_
      refine hr_region_end ?_
      try dsimp only [w0, w1, w2, w3]
      obtain ⟨p73, hp73, h⟩ := bindo h
      obtain ⟨p74, hp74, h⟩ := bindo h
      cases h
      exact q_ret rfl at_.at_ rfl (resL1 rfl (ResAt.arr rfl hp73 ia34 (by decide) hp74)) ⟨rfl, rfl⟩
def f (k : Nat) (S : HS) : Option (((List HV)) × HS) :=
  (letv (HS.new S (.cells 256 [List.replicate 256 (.int .u16 0)] true)) fun p1 =>
  (letv (HS.new p1 (.cells 256 [List.replicate 256 (.int .u16 0)] true)) fun p2 =>
  L0 k k (some (HA.cell0 S.next)) (some (HA.cell0 p1.next)) 0 p2))
theorem snd {k : Nat} {S : HS}  {p : ((List HV)) × HS} (h : f k S = some p) : HCall Try.prog base W0 β0 34 [] S (fun v S1 => v = (.agg p.1) ∧ S1 = p.2) := by
  unfold f at h
  refine HCall.of_run at_.at_ body ?_
  show HRun Try.prog base W0 β0 34 none [.code c0] ⟨[τ, τ, τ, τ, τ, τ, τ, τ, τ, τ, τ, τ, τ, τ, τ, τ, τ, τ, τ, τ, τ, τ, τ, τ, τ, τ, τ, τ, τ, τ, τ, τ, τ, τ, τ, τ, τ, τ, τ, τ, τ, τ, τ, τ, τ, τ, τ, τ, τ, τ, τ, τ, τ, τ, τ, τ, τ, τ, τ, τ, τ, τ, τ, τ, τ, τ, τ, τ, τ, τ, τ, τ, τ, τ, τ, τ, τ, τ, τ, τ, τ, τ, τ, τ, τ, τ, τ, τ, τ, τ, τ, τ, τ, τ], []⟩ S _
  refine q_seq rfl ?_
  refine q_region rfl rfl ?_
  obtain ⟨p1, hp1, h⟩ := leto h
  refine qS 0 rfl (ok_alloc_arr · za34 (fun β => .int _ _) (by decide) rfl hp1) ?_
  refine hr_region_end ?_
  try dsimp only [w0, w1, w2, w3]
  refine q_seq rfl ?_
  refine q_region rfl rfl ?_
  obtain ⟨p2, hp2, h⟩ := leto h
  refine qS 1 rfl (ok_alloc_arr · za34 (fun β => .int _ _) (by decide) rfl hp2) ?_
  refine hr_region_end ?_
  try dsimp only [w0, w1, w2, w3]
  refine q_seq rfl ?_
  refine q_seq rfl ?_
  refine q_region rfl rfl ?_
  refine qS 5 rfl (ok_move · (.int _ _)) ?_
  refine hr_region_end ?_
  try dsimp only [w0, w1, w2, w3]
  refine q_block rfl ?_
  refine q_loop rfl ?_
  try dsimp only [w0, w1, w2, w3]
  exact L0_snd  h
end
end valid_kinds
namespace valid_all
theorem at_ : FnAt Try.prog 27 Try.f27 := ⟨Try.func27, by kernel_rfl⟩
noncomputable def d0 := (Try.f27.body).getD .skip
noncomputable def r1 := kR (kA d0)
noncomputable def r4 := kR (kA (kA (kB d0)))
noncomputable def r7 := kR (kA (kA (kB (kA (kB d0)))))
noncomputable def r11 := kR (kA (kB (kB d0)))
noncomputable def d12 := kB (kB (kB d0))
noncomputable def r14 := kR (kA (kA d12))
noncomputable def d16 := kA (kB (kA d12))
noncomputable def r18 := kR (kA (kA d16))
noncomputable def d23 := kB (kB (kA d16))
noncomputable def r26 := kR (kA (kA (kA d23)))
noncomputable def r28 := kR (kA (kB (kA (kA d23))))
noncomputable def r31 := kR (kA (kA (kB (kB (kA (kA d23))))))
noncomputable def r34 := kR (kB d23)
noncomputable def r36 := kR (kA (kB d12))
noncomputable def c35 : Code := .seq (.region 10 r36 false) .ret
noncomputable def c17 : Code := .seq (.region 5 r18 false) (.seq (.cond (.tmp 25) .skip (.exit 0)) (.seq (.block 1 (.seq (.region 6 r26 false) (.seq (.region 7 r28 false) (.cond (.tmp 34) (.seq (.region 8 r31 false) .ret) .skip)))) (.region 9 r34 false)))
noncomputable def c10 : Code := .seq (.region 3 r11 false) (.seq (.seq (.region 4 r14 false) (.block 0 (.loop c17))) c35)
noncomputable def c5 : Code := .cond (.tmp 20) (.seq (.region 2 r7 false) .ret) .skip
noncomputable def c0 : Code := .seq (.region 0 r1 false) (.seq (.seq (.region 1 r4 false) c5) c10)
theorem body : Try.f27.body = some c0 := by kernel_rfl
section
variable {base : Nat} {W0 : World} {β0 : Bt}
def L1 (k : Nat) : Nat → (List UInt8) → Int → (Option HA) → Int → Int → HS → Option ((Bool) × HS)
  | 0, _, _, _, _, _, _ => none
  | n + 1, y0, y3, y9, y23, y24, S =>
    (if y24 < y23 then
    (Option.bind (sat y0 y24) fun p8 =>
    (Option.bind (y9) fun p9 =>
    (if 0 ≤ ((UInt8.toNat p8 : Int) : Int) ∧ ((UInt8.toNat p8 : Int) : Int) < 256 then
    (Option.bind (HS.ldI S .u16 (HA.fld p9 (Int.toNat (UInt8.toNat p8 : Int)))) fun p11 =>
    (if (iand .u16 p11 y3) = 0 then
    some (false, S) else
    (L1 k n) y0 y3 y9 y23 (w64 (y24 + 1)) S)) else none))) else
    some (true, S))
theorem L1_snd {k : Nat}  : ∀ {n : Nat} ⦃y0 : (List UInt8)⦄ ⦃y3 : Int⦄ ⦃y9 : (Option HA)⦄ ⦃y23 : Int⦄ ⦃y24 : Int⦄ ⦃S : HS⦄ ⦃p : (Bool) × HS⦄ ⦃g1 g2 g4 g5 g6 g7 g8 g10 g11 g12 g13 g14 g15 g16 g17 g18 g19 g20 g21 g22 g25 g26 g27 g28 g29 g30 g31 g32 g33 g34 g35 : HV⦄, L1 k n y0 y3 y9 y23 y24 S = some p → HRun Try.prog base W0 β0 27 none [.inLoop c17, .inBlock 0, .code c35] ⟨[(.str y0), g1, g2, (.int .u16 y3), g4, g5, g6, g7, g8, (.ptr y9), g10, g11, g12, g13, g14, g15, g16, g17, g18, g19, g20, g21, g22, (.int .i64 y23), (.int .i64 y24), g25, g26, g27, g28, g29, g30, g31, g32, g33, g34, g35], []⟩ S (fun v S1 => v = (.bool p.1) ∧ S1 = p.2) := by
  intro n
  induction n with
  | zero => intro _ _ _ _ _ _ _ _ _ _ _ _ _ _ _ _ _ _ _ _ _ _ _ _ _ _ _ _ _ _ _ _ _ _ _ _ _ _ h; cases h
  | succ n ih =>
    intro y0 y3 y9 y23 y24 S p g1 g2 g4 g5 g6 g7 g8 g10 g11 g12 g13 g14 g15 g16 g17 g18 g19 g20 g21 g22 g25 g26 g27 g28 g29 g30 g31 g32 g33 g34 g35 h
    simp only [L1] at h
    refine hr_inLoop ?_
    refine q_seq rfl ?_
    refine q_region rfl rfl ?_
    refine qS 25 rfl (ok_ibin · (.tmp rfl) (.tmp rfl) rfl) ?_
    refine hr_region_end ?_
    try dsimp only [w0, w1, w2, w3]
    refine q_seq rfl ?_
    rcases ifc h with ⟨hc7, h⟩ | ⟨hc7, h⟩
    · refine q_cond_t rfl (.tmp rfl) (decide_eq_true hc7) ?_
      refine q_skipc rfl ?_
      refine q_seq rfl ?_
      refine q_block rfl ?_
      refine q_seq rfl ?_
      refine q_region rfl rfl ?_
      refine qS 26 rfl (ok_move · (.tmp rfl)) ?_
      refine qS 10 rfl (ok_assign · (.tmp rfl)) ?_
      refine hr_region_end ?_
      try dsimp only [w0, w1, w2, w3]
      refine q_seq rfl ?_
      refine q_region rfl rfl ?_
      refine qS 27 rfl (ok_move · (.tmp rfl)) ?_
      refine qS 28 rfl (ok_move · (.tmp rfl)) ?_
      obtain ⟨p8, hp8, h⟩ := bindo h
      refine qS 29 rfl (ok_index_s · tu9 (.tmp rfl) (.tmp rfl) hp8) ?_
      obtain ⟨p9, hp9, h⟩ := bindo h
      obtain ⟨hg10, h⟩ := gd h
      refine qS 30 rfl (ok_indexAddr_arr · ta34 sz30 (.tmp rfl) hp9 (.tmp rfl) hg10) ?_
      try dsimp only [w0, w1, w2, w3]
      obtain ⟨p11, hp11, h⟩ := bindo h
      refine qS 31 rfl (ok_load_s · sc30 (.tmp rfl) rfl (ldI_out hp11)) ?_
      refine qS 32 rfl (ok_move · (.tmp rfl)) ?_
      refine qS 33 rfl (ok_ibin · (.tmp rfl) (.tmp rfl) rfl) ?_
      refine qS 34 rfl (ok_ibin · (.tmp rfl) (.int _ _) rfl) ?_
      refine hr_region_end ?_
      try dsimp only [w0, w1, w2, w3]
      rcases ifc h with ⟨hc12, h⟩ | ⟨hc12, h⟩
      · refine q_cond_t rfl (.tmp rfl) (decide_eq_true hc12) ?_
        refine q_seq rfl ?_
        refine q_region rfl rfl ?_
        refine qS 8 rfl (ok_assign · (.bool _)) ?_
        refine hr_region_end ?_
        try dsimp only [w0, w1, w2, w3]
        cases h
        exact q_ret rfl at_.at_ rfl (res1 rfl rfl) ⟨rfl, rfl⟩
      · refine q_cond_f rfl (.tmp rfl) (decide_eq_false hc12) ?_
        refine q_skipc rfl ?_
        refine hr_inBlock ?_
        refine q_region rfl rfl ?_
        refine qS 35 rfl (ok_ibin · (.tmp rfl) (.int _ _) rfl) ?_
        refine qS 24 rfl (ok_move · (.tmp rfl)) ?_
        refine hr_region_end ?_
        try dsimp only [w0, w1, w2, w3]
        try dsimp only [w0, w1, w2, w3]
        exact ih h
    · refine q_cond_f rfl (.tmp rfl) (decide_eq_false hc7) ?_
      refine q_exit rfl rfl ?_
      refine q_seq rfl ?_
      refine q_region rfl rfl ?_
      refine qS 8 rfl (ok_assign · (.bool _)) ?_
      refine hr_region_end ?_
      try dsimp only [w0, w1, w2, w3]
      cases h
      exact q_ret rfl at_.at_ rfl (res1 rfl rfl) ⟨rfl, rfl⟩
def J0 (k : Nat) (y0 : (List UInt8)) (y3 : Int) (y20 : Bool) (S : HS) : Option ((Bool) × HS) :=
  (if y20 = true then
  some (false, S) else
  (Option.bind (valid_kinds.f k S) fun p3 =>
  (letv (HS.new p3.2 (.cells 256 [List.replicate 256 (.int .u16 0)] true)) fun p4 =>
  (if List.length p3.1 = 256 ∧ List.all p3.1 HV.flat = true then
  (Option.bind (HS.sets p4 (HA.cell0 p3.2.next) p3.1) fun p6 =>
  L1 k k y0 y3 (some (HA.cell0 p3.2.next)) (List.length y0 : Int) 0 p6) else none))))
theorem J0_snd {k : Nat}  {y0 : (List UInt8)} {y3 : Int} {y20 : Bool} {S : HS} {p : (Bool) × HS} {g1 g2 g4 g5 g6 g7 g8 g9 g10 g11 g12 g13 g14 g15 g16 g17 g18 g19 g21 g22 g23 g24 g25 g26 g27 g28 g29 g30 g31 g32 g33 g34 g35 : HV} (h : J0 k y0 y3 y20 S = some p) : HRun Try.prog base W0 β0 27 none [.code c5, .code c10] ⟨[(.str y0), g1, g2, (.int .u16 y3), g4, g5, g6, g7, g8, g9, g10, g11, g12, g13, g14, g15, g16, g17, g18, g19, (.bool y20), g21, g22, g23, g24, g25, g26, g27, g28, g29, g30, g31, g32, g33, g34, g35], []⟩ S (fun v S1 => v = (.bool p.1) ∧ S1 = p.2) := by
  unfold J0 at h
  rcases ifc h with ⟨hc2, h⟩ | ⟨hc2, h⟩
  · refine q_cond_t rfl (.tmp rfl) hc2 ?_
    refine q_seq rfl ?_
    refine q_region rfl rfl ?_
    refine qS 8 rfl (ok_assign · (.bool _)) ?_
    refine hr_region_end ?_
    try dsimp only [w0, w1, w2, w3]
    cases h
    exact q_ret rfl at_.at_ rfl (res1 rfl rfl) ⟨rfl, rfl⟩
  · refine q_cond_f rfl (.tmp rfl) (bfalse hc2) ?_
    refine q_skipc rfl ?_
    refine q_seq rfl ?_
    refine q_region rfl rfl ?_
    obtain ⟨p3, hp3, h⟩ := bindo h
    refine q_call (dst := some 21) rfl (.func _) Evs.nil (HInv.static valid_kinds.at_ valid_kinds.body (valid_kinds.snd  hp3)) ?_
    rintro _ _ ⟨rfl, rfl⟩
    obtain ⟨p4, hp4, h⟩ := leto h
    refine qS 9 rfl (ok_alloc_arr · za34 (fun β => .int _ _) (by decide) rfl hp4) ?_
    obtain ⟨hg5, h⟩ := gd h
    obtain ⟨p6, hp6, h⟩ := bindo h
    refine qN rfl (ok_store_arr · sz34 (.tmp rfl) rfl (.tmp rfl) hg5 hp6) ?_
    refine hr_region_end ?_
    try dsimp only [w0, w1, w2, w3]
    refine q_seq rfl ?_
    refine q_seq rfl ?_
    refine q_region rfl rfl ?_
    refine qS 22 rfl (ok_move · (.tmp rfl)) ?_
    refine qS 23 rfl (ok_len_str · rfl tu9 (.tmp rfl)) ?_
    refine qS 24 rfl (ok_move · (.int _ _)) ?_
    refine hr_region_end ?_
    try dsimp only [w0, w1, w2, w3]
    refine q_block rfl ?_
    refine q_loop rfl ?_
    try dsimp only [w0, w1, w2, w3]
    exact L1_snd  h
def f (k : Nat) (x0 : (List UInt8)) (x1 : Int) (x2 : Int) (x3 : Int) (S : HS) : Option ((Bool) × HS) :=
  (if (List.length x0 : Int) < x1 then
  J0 k x0 x3 true S else
  J0 k x0 x3 (decide ((List.length x0 : Int) > x2)) S)
theorem snd {k : Nat} {x0 : (List UInt8)} {x1 : Int} {x2 : Int} {x3 : Int} {S : HS}  {p : (Bool) × HS} (h : f k x0 x1 x2 x3 S = some p) : HCall Try.prog base W0 β0 27 [(.str x0), (.int .i64 x1), (.int .i64 x2), (.int .u16 x3)] S (fun v S1 => v = (.bool p.1) ∧ S1 = p.2) := by
  unfold f at h
  refine HCall.of_run at_.at_ body ?_
  show HRun Try.prog base W0 β0 27 none [.code c0] ⟨[(.str x0), (.int .i64 x1), (.int .i64 x2), (.int .u16 x3), τ, τ, τ, τ, τ, τ, τ, τ, τ, τ, τ, τ, τ, τ, τ, τ, τ, τ, τ, τ, τ, τ, τ, τ, τ, τ, τ, τ, τ, τ, τ, τ], []⟩ S _
  refine q_seq rfl ?_
  refine q_region rfl rfl ?_
  refine qS 8 rfl (ok_assign · (.bool _)) ?_
  refine hr_region_end ?_
  try dsimp only [w0, w1, w2, w3]
  refine q_seq rfl ?_
  refine q_seq rfl ?_
  refine q_region rfl rfl ?_
  refine qS 11 rfl (ok_move · (.tmp rfl)) ?_
  refine qS 12 rfl (ok_len_str · rfl tu9 (.tmp rfl)) ?_
  refine qS 13 rfl (ok_move · (.tmp rfl)) ?_
  refine qS 14 rfl (ok_ibin · (.tmp rfl) (.tmp rfl) rfl) ?_
  try dsimp only [w0, w1, w2, w3]
  refine qS 15 rfl (ok_move · (.tmp rfl)) ?_
  rcases ifc h with ⟨hc1, h⟩ | ⟨hc1, h⟩
  · refine q_skip (dst := some 16) (t := 15) rfl rfl rfl (decide_eq_true hc1) ?_
    refine q_skip (dst := some 17) (t := 15) rfl rfl rfl (decide_eq_true hc1) ?_
    refine q_skip (dst := some 18) (t := 15) rfl rfl rfl (decide_eq_true hc1) ?_
    try dsimp only [w0, w1, w2, w3]
    refine q_skip (dst := some 19) (t := 15) rfl rfl rfl (decide_eq_true hc1) ?_
    refine qS 20 rfl (ok_pick_tt · (.tmp rfl) (decide_eq_true hc1) (.bool _)) ?_
    refine hr_region_end ?_
    try dsimp only [w0, w1, w2, w3]
    try dsimp only [w0, w1, w2, w3]
    exact J0_snd  h
  · refine qG 15 16 rfl (decide_eq_false hc1) (ok_move · (.tmp rfl)) ?_
    refine qG 15 17 rfl (decide_eq_false hc1) (ok_len_str · rfl tu9 (.tmp rfl)) ?_
    refine qG 15 18 rfl (decide_eq_false hc1) (ok_move · (.tmp rfl)) ?_
    try dsimp only [w0, w1, w2, w3]
    refine qG 15 19 rfl (decide_eq_false hc1) (ok_ibin · (.tmp rfl) (.tmp rfl) rfl) ?_
    refine qS 20 rfl (ok_pick_ff · (.tmp rfl) (decide_eq_false hc1) (.tmp rfl)) ?_
    refine hr_region_end ?_
    try dsimp only [w0, w1, w2, w3]
    try dsimp only [w0, w1, w2, w3]
    exact J0_snd  h
end
end valid_all
namespace valid_Nick
theorem at_ : FnAt Try.prog 10 Try.f10 := ⟨Try.func10, by kernel_rfl⟩
noncomputable def d0 := (Try.f10.body).getD .skip
noncomputable def r1 := kR (kA d0)
noncomputable def r3 := kR (kA (kB d0))
noncomputable def c4 : Code := .ret
noncomputable def c0 : Code := .seq (.region 0 r1 false) (.seq (.region 1 r3 false) c4)
theorem body : Try.f10.body = some c0 := by kernel_rfl
section
variable {base : Nat} {W0 : World} {β0 : Bt}
def J0 (k : Nat) (y9 : Bool) (S : HS) : Option ((Bool) × HS) :=
  some (y9, S)
theorem J0_snd {k : Nat}  {y9 : Bool} {S : HS} {p : (Bool) × HS} {g0 g1 g2 g3 g4 g5 g6 g7 g8 : HV} (h : J0 k y9 S = some p) : HRun Try.prog base W0 β0 10 none [.inRegion r3 [7], .code c4] ⟨[g0, g1, g2, g3, g4, g5, g6, g7, g8, (.bool y9)], []⟩ S (fun v S1 => v = (.bool p.1) ∧ S1 = p.2) := by
  unfold J0 at h
  refine qS 2 rfl (ok_assign · (.tmp rfl)) ?_
  refine hr_region_end ?_
  try dsimp only [w0, w1, w2, w3]
  cases h
  exact q_ret rfl at_.at_ rfl (res1 rfl rfl) ⟨rfl, rfl⟩
def f (k : Nat) (x0 : (List UInt8)) (S : HS) : Option ((Bool) × HS) :=
  (Option.bind (valid_all.f k x0 1 16 2 S) fun p1 =>
  (if p1.1 = true then
  (if 0 ≤ (0 : Int) ∧ (0 : Int) ≤ 1 ∧ (1 : Int) ≤ (List.length x0 : Int) then
  (Option.bind (valid_all.f k (ssub x0 0 1) 1 1 1 p1.2) fun p4 =>
  J0 k p4.1 p4.2) else none) else
  J0 k false p1.2))
theorem snd {k : Nat} {x0 : (List UInt8)} {S : HS}  {p : (Bool) × HS} (h : f k x0 S = some p) : HCall Try.prog base W0 β0 10 [(.str x0)] S (fun v S1 => v = (.bool p.1) ∧ S1 = p.2) := by
  unfold f at h
  refine HCall.of_run at_.at_ body ?_
  show HRun Try.prog base W0 β0 10 none [.code c0] ⟨[(.str x0), τ, τ, τ, τ, τ, τ, τ, τ, τ], []⟩ S _
  refine q_seq rfl ?_
  refine q_region rfl rfl ?_
  refine qS 2 rfl (ok_assign · (.bool _)) ?_
  refine hr_region_end ?_
  try dsimp only [w0, w1, w2, w3]
  refine q_seq rfl ?_
  refine q_region rfl rfl ?_
  refine qS 3 rfl (ok_move · (.tmp rfl)) ?_
  obtain ⟨p1, hp1, h⟩ := bindo h
  refine q_call (dst := some 4) rfl (.func _) (.cons (.tmp rfl) (.cons (.int _ _) (.cons (.int _ _) (.cons (.int _ _) Evs.nil)))) (HInv.static valid_all.at_ valid_all.body (valid_all.snd  hp1)) ?_
  rintro _ _ ⟨rfl, rfl⟩
  refine qS 5 rfl (ok_move · (.tmp rfl)) ?_
  rcases ifc h with ⟨hc2, h⟩ | ⟨hc2, h⟩
  · refine qG 5 6 rfl hc2 (ok_move · (.tmp rfl)) ?_
    try dsimp only [w0, w1, w2, w3]
    obtain ⟨hg3, h⟩ := gd h
    refine qG 5 7 rfl hc2 (ok_slice_str (kl := .i64) (kh := .i64) (l := 0) (h := 1) · tu9 (.tmp rfl) (.inl ⟨rfl, rfl⟩) (.inr ⟨_, rfl, (.int _ _)⟩) hg3.1 hg3.2.1 hg3.2.2) ?_
    obtain ⟨p4, hp4, h⟩ := bindo h
    refine q_call_g (t := 5) (dst := some 8) rfl rfl rfl hc2 (.func _) (.cons (.tmp rfl) (.cons (.int _ _) (.cons (.int _ _) (.cons (.int _ _) Evs.nil)))) (HInv.static valid_all.at_ valid_all.body (valid_all.snd  hp4)) ?_
    rintro _ _ ⟨rfl, rfl⟩
    refine qS 9 rfl (ok_pick_tt · (.tmp rfl) hc2 (.tmp rfl)) ?_
    try dsimp only [w0, w1, w2, w3]
    exact J0_snd  h
  · refine q_skip (dst := some 6) (t := 5) rfl rfl rfl (bfalse hc2) ?_
    try dsimp only [w0, w1, w2, w3]
    refine q_skip (dst := some 7) (t := 5) rfl rfl rfl (bfalse hc2) ?_
    refine q_skip (dst := some 8) (t := 5) rfl rfl rfl (bfalse hc2) ?_
    refine qS 9 rfl (ok_pick_ff · (.tmp rfl) (bfalse hc2) (.bool _)) ?_
    try dsimp only [w0, w1, w2, w3]
    exact J0_snd  h
end
end valid_Nick
namespace valid_Channel
theorem at_ : FnAt Try.prog 11 Try.f11 := ⟨Try.func11, by kernel_rfl⟩
noncomputable def d0 := (Try.f11.body).getD .skip
noncomputable def r1 := kR (kA d0)
noncomputable def r3 := kR (kA (kB d0))
noncomputable def c4 : Code := .ret
noncomputable def c0 : Code := .seq (.region 0 r1 false) (.seq (.region 1 r3 false) c4)
theorem body : Try.f11.body = some c0 := by kernel_rfl
section
variable {base : Nat} {W0 : World} {β0 : Bt}
def J1 (k : Nat) (y15 : Bool) (S : HS) : Option ((Bool) × HS) :=
  some (y15, S)
theorem J1_snd {k : Nat}  {y15 : Bool} {S : HS} {p : (Bool) × HS} {g0 g1 g2 g3 g4 g5 g6 g7 g8 g9 g10 g11 g12 g13 g14 : HV} (h : J1 k y15 S = some p) : HRun Try.prog base W0 β0 11 none [.inRegion r3 [13], .code c4] ⟨[g0, g1, g2, g3, g4, g5, g6, g7, g8, g9, g10, g11, g12, g13, g14, (.bool y15)], []⟩ S (fun v S1 => v = (.bool p.1) ∧ S1 = p.2) := by
  unfold J1 at h
  refine qS 2 rfl (ok_assign · (.tmp rfl)) ?_
  refine hr_region_end ?_
  try dsimp only [w0, w1, w2, w3]
  cases h
  exact q_ret rfl at_.at_ rfl (res1 rfl rfl) ⟨rfl, rfl⟩
def J0 (k : Nat) (y0 : (List UInt8)) (y10 : Bool) (S : HS) : Option ((Bool) × HS) :=
  (if y10 = true then
  (if 0 ≤ (1 : Int) ∧ (1 : Int) ≤ (List.length y0 : Int) ∧ ((List.length y0 : Int) : Int) ≤ (List.length y0 : Int) then
  (Option.bind (valid_all.f k (ssub y0 1 (List.length y0 : Int)) 1 49 4 S) fun p5 =>
  J1 k p5.1 p5.2) else none) else
  J1 k false S)
theorem J0_snd {k : Nat}  {y0 : (List UInt8)} {y10 : Bool} {S : HS} {p : (Bool) × HS} {g1 g2 g3 g4 g5 g6 g7 g8 g9 g11 g12 g13 g14 g15 : HV} (h : J0 k y0 y10 S = some p) : HRun Try.prog base W0 β0 11 none [.inRegion r3 [8, 9, 10, 11, 12, 13], .code c4] ⟨[(.str y0), g1, g2, g3, g4, g5, g6, g7, g8, g9, (.bool y10), g11, g12, g13, g14, g15], []⟩ S (fun v S1 => v = (.bool p.1) ∧ S1 = p.2) := by
  unfold J0 at h
  refine qS 11 rfl (ok_move · (.tmp rfl)) ?_
  rcases ifc h with ⟨hc3, h⟩ | ⟨hc3, h⟩
  · refine qG 11 12 rfl hc3 (ok_move · (.tmp rfl)) ?_
    obtain ⟨hg4, h⟩ := gd h
    refine qG 11 13 rfl hc3 (ok_slice_str (kl := .i64) (kh := .i64) (l := 1) (h := (List.length y0 : Int)) · tu9 (.tmp rfl) (.inr ⟨_, rfl, (.int _ _)⟩) (.inl ⟨rfl, rfl⟩) hg4.1 hg4.2.1 hg4.2.2) ?_
    obtain ⟨p5, hp5, h⟩ := bindo h
    refine q_call_g (t := 11) (dst := some 14) rfl rfl rfl hc3 (.func _) (.cons (.tmp rfl) (.cons (.int _ _) (.cons (.int _ _) (.cons (.int _ _) Evs.nil)))) (HInv.static valid_all.at_ valid_all.body (valid_all.snd  hp5)) ?_
    rintro _ _ ⟨rfl, rfl⟩
    try dsimp only [w0, w1, w2, w3]
    refine qS 15 rfl (ok_pick_tt · (.tmp rfl) hc3 (.tmp rfl)) ?_
    try dsimp only [w0, w1, w2, w3]
    exact J1_snd  h
  · refine q_skip (dst := some 12) (t := 11) rfl rfl rfl (bfalse hc3) ?_
    refine q_skip (dst := some 13) (t := 11) rfl rfl rfl (bfalse hc3) ?_
    refine q_skip (dst := some 14) (t := 11) rfl rfl rfl (bfalse hc3) ?_
    try dsimp only [w0, w1, w2, w3]
    refine qS 15 rfl (ok_pick_ff · (.tmp rfl) (bfalse hc3) (.bool _)) ?_
    try dsimp only [w0, w1, w2, w3]
    exact J1_snd  h
def f (k : Nat) (x0 : (List UInt8)) (S : HS) : Option ((Bool) × HS) :=
  (if (List.length x0 : Int) ≥ 2 then
  (Option.bind (sat x0 0) fun p2 =>
  J0 k x0 (decide ((UInt8.toNat p2 : Int) = 35)) S) else
  J0 k x0 false S)
theorem snd {k : Nat} {x0 : (List UInt8)} {S : HS}  {p : (Bool) × HS} (h : f k x0 S = some p) : HCall Try.prog base W0 β0 11 [(.str x0)] S (fun v S1 => v = (.bool p.1) ∧ S1 = p.2) := by
  unfold f at h
  refine HCall.of_run at_.at_ body ?_
  show HRun Try.prog base W0 β0 11 none [.code c0] ⟨[(.str x0), τ, τ, τ, τ, τ, τ, τ, τ, τ, τ, τ, τ, τ, τ, τ], []⟩ S _
  refine q_seq rfl ?_
  refine q_region rfl rfl ?_
  refine qS 2 rfl (ok_assign · (.bool _)) ?_
  refine hr_region_end ?_
  try dsimp only [w0, w1, w2, w3]
  refine q_seq rfl ?_
  refine q_region rfl rfl ?_
  refine qS 3 rfl (ok_move · (.tmp rfl)) ?_
  refine qS 4 rfl (ok_len_str · rfl tu9 (.tmp rfl)) ?_
  refine qS 5 rfl (ok_ibin · (.tmp rfl) (.int _ _) rfl) ?_
  refine qS 6 rfl (ok_move · (.tmp rfl)) ?_
  try dsimp only [w0, w1, w2, w3]
  rcases ifc h with ⟨hc1, h⟩ | ⟨hc1, h⟩
  · refine qG 6 7 rfl (decide_eq_true hc1) (ok_move · (.tmp rfl)) ?_
    obtain ⟨p2, hp2, h⟩ := bindo h
    refine qG 6 8 rfl (decide_eq_true hc1) (ok_index_s · tu9 (.tmp rfl) (.int _ _) hp2) ?_
    refine qG 6 9 rfl (decide_eq_true hc1) (ok_ibin · (.tmp rfl) (.int _ _) rfl) ?_
    refine qS 10 rfl (ok_pick_tt · (.tmp rfl) (decide_eq_true hc1) (.tmp rfl)) ?_
    try dsimp only [w0, w1, w2, w3]
    try dsimp only [w0, w1, w2, w3]
    exact J0_snd  h
  · refine q_skip (dst := some 7) (t := 6) rfl rfl rfl (decide_eq_false hc1) ?_
    refine q_skip (dst := some 8) (t := 6) rfl rfl rfl (decide_eq_false hc1) ?_
    refine q_skip (dst := some 9) (t := 6) rfl rfl rfl (decide_eq_false hc1) ?_
    refine qS 10 rfl (ok_pick_ff · (.tmp rfl) (decide_eq_false hc1) (.bool _)) ?_
    try dsimp only [w0, w1, w2, w3]
    try dsimp only [w0, w1, w2, w3]
    exact J0_snd  h
end
end valid_Channel
namespace rollcalllaw03_awake
theorem at_ : FnAt Try.prog 7 Try.f7 := ⟨Try.func7, by kernel_rfl⟩
noncomputable def d0 := (Try.f7.body).getD .skip
noncomputable def r1 := kR (kA d0)
noncomputable def r3 := kR (kA (kB d0))
noncomputable def c4 : Code := .ret
noncomputable def c0 : Code := .seq (.region 0 r1 false) (.seq (.region 1 r3 false) c4)
theorem body : Try.f7.body = some c0 := by kernel_rfl
section
variable {base : Nat} {W0 : World} {β0 : Bt}
def J3 (k : Nat) (y16 : Bool) (S : HS) : Option ((Bool) × HS) :=
  some (y16, S)
theorem J3_snd {k : Nat}  {y16 : Bool} {S : HS} {p : (Bool) × HS} {g0 g1 g2 g3 g4 g5 g6 g7 g8 g9 g10 g11 g12 g13 g14 g15 : HV} (h : J3 k y16 S = some p) : HRun Try.prog base W0 β0 7 none [.inRegion r3 [16], .code c4] ⟨[g0, g1, g2, g3, g4, g5, g6, g7, g8, g9, g10, g11, g12, g13, g14, g15, (.bool y16)], []⟩ S (fun v S1 => v = (.bool p.1) ∧ S1 = p.2) := by
  unfold J3 at h
  refine qS 0 rfl (ok_assign · (.tmp rfl)) ?_
  refine hr_region_end ?_
  try dsimp only [w0, w1, w2, w3]
  cases h
  exact q_ret rfl at_.at_ rfl (res1 rfl rfl) ⟨rfl, rfl⟩
def J2 (k : Nat) (y12 : Bool) (S : HS) : Option ((Bool) × HS) :=
  (if y12 = true then
  (Option.bind (valid_Channel.f k ([35] : List UInt8) S) fun p9 =>
  J3 k (!p9.1) p9.2) else
  J3 k false S)
theorem J2_snd {k : Nat}  {y12 : Bool} {S : HS} {p : (Bool) × HS} {g0 g1 g2 g3 g4 g5 g6 g7 g8 g9 g10 g11 g13 g14 g15 g16 : HV} (h : J2 k y12 S = some p) : HRun Try.prog base W0 β0 7 none [.inRegion r3 [12, 13, 14, 15, 16], .code c4] ⟨[g0, g1, g2, g3, g4, g5, g6, g7, g8, g9, g10, g11, (.bool y12), g13, g14, g15, g16], []⟩ S (fun v S1 => v = (.bool p.1) ∧ S1 = p.2) := by
  unfold J2 at h
  refine qS 13 rfl (ok_move · (.tmp rfl)) ?_
  rcases ifc h with ⟨hc8, h⟩ | ⟨hc8, h⟩
  · obtain ⟨p9, hp9, h⟩ := bindo h
    refine q_call_g (t := 13) (dst := some 14) rfl rfl rfl hc8 (.func _) (.cons (.str _) Evs.nil) (HInv.static valid_Channel.at_ valid_Channel.body (valid_Channel.snd  hp9)) ?_
    rintro _ _ ⟨rfl, rfl⟩
    refine qG 13 15 rfl hc8 (ok_not · (.tmp rfl)) ?_
    refine qS 16 rfl (ok_pick_tt · (.tmp rfl) hc8 (.tmp rfl)) ?_
    try dsimp only [w0, w1, w2, w3]
    try dsimp only [w0, w1, w2, w3]
    exact J3_snd  h
  · refine q_skip (dst := some 14) (t := 13) rfl rfl rfl (bfalse hc8) ?_
    refine q_skip (dst := some 15) (t := 13) rfl rfl rfl (bfalse hc8) ?_
    refine qS 16 rfl (ok_pick_ff · (.tmp rfl) (bfalse hc8) (.bool _)) ?_
    try dsimp only [w0, w1, w2, w3]
    try dsimp only [w0, w1, w2, w3]
    exact J3_snd  h
def J1 (k : Nat) (y9 : Bool) (S : HS) : Option ((Bool) × HS) :=
  (if y9 = true then
  (Option.bind (valid_Channel.f k ([35, 97] : List UInt8) S) fun p7 =>
  J2 k p7.1 p7.2) else
  J2 k false S)
theorem J1_snd {k : Nat}  {y9 : Bool} {S : HS} {p : (Bool) × HS} {g0 g1 g2 g3 g4 g5 g6 g7 g8 g10 g11 g12 g13 g14 g15 g16 : HV} (h : J1 k y9 S = some p) : HRun Try.prog base W0 β0 7 none [.inRegion r3 [9, 10, 11, 12, 13, 14, 15, 16], .code c4] ⟨[g0, g1, g2, g3, g4, g5, g6, g7, g8, (.bool y9), g10, g11, g12, g13, g14, g15, g16], []⟩ S (fun v S1 => v = (.bool p.1) ∧ S1 = p.2) := by
  unfold J1 at h
  refine qS 10 rfl (ok_move · (.tmp rfl)) ?_
  rcases ifc h with ⟨hc6, h⟩ | ⟨hc6, h⟩
  · obtain ⟨p7, hp7, h⟩ := bindo h
    refine q_call_g (t := 10) (dst := some 11) rfl rfl rfl hc6 (.func _) (.cons (.str _) Evs.nil) (HInv.static valid_Channel.at_ valid_Channel.body (valid_Channel.snd  hp7)) ?_
    rintro _ _ ⟨rfl, rfl⟩
    refine qS 12 rfl (ok_pick_tt · (.tmp rfl) hc6 (.tmp rfl)) ?_
    try dsimp only [w0, w1, w2, w3]
    try dsimp only [w0, w1, w2, w3]
    exact J2_snd  h
  · refine q_skip (dst := some 11) (t := 10) rfl rfl rfl (bfalse hc6) ?_
    refine qS 12 rfl (ok_pick_ff · (.tmp rfl) (bfalse hc6) (.bool _)) ?_
    try dsimp only [w0, w1, w2, w3]
    try dsimp only [w0, w1, w2, w3]
    exact J2_snd  h
def J0 (k : Nat) (y5 : Bool) (S : HS) : Option ((Bool) × HS) :=
  (if y5 = true then
  (Option.bind (valid_Nick.f k ([49, 97] : List UInt8) S) fun p5 =>
  J1 k (!p5.1) p5.2) else
  J1 k false S)
theorem J0_snd {k : Nat}  {y5 : Bool} {S : HS} {p : (Bool) × HS} {g0 g1 g2 g3 g4 g6 g7 g8 g9 g10 g11 g12 g13 g14 g15 g16 : HV} (h : J0 k y5 S = some p) : HRun Try.prog base W0 β0 7 none [.inRegion r3 [5, 6, 7, 8, 9, 10, 11, 12, 13, 14, 15, 16], .code c4] ⟨[g0, g1, g2, g3, g4, (.bool y5), g6, g7, g8, g9, g10, g11, g12, g13, g14, g15, g16], []⟩ S (fun v S1 => v = (.bool p.1) ∧ S1 = p.2) := by
  unfold J0 at h
  refine qS 6 rfl (ok_move · (.tmp rfl)) ?_
  rcases ifc h with ⟨hc4, h⟩ | ⟨hc4, h⟩
  · obtain ⟨p5, hp5, h⟩ := bindo h
    refine q_call_g (t := 6) (dst := some 7) rfl rfl rfl hc4 (.func _) (.cons (.str _) Evs.nil) (HInv.static valid_Nick.at_ valid_Nick.body (valid_Nick.snd  hp5)) ?_
    rintro _ _ ⟨rfl, rfl⟩
    refine qG 6 8 rfl hc4 (ok_not · (.tmp rfl)) ?_
    try dsimp only [w0, w1, w2, w3]
    refine qS 9 rfl (ok_pick_tt · (.tmp rfl) hc4 (.tmp rfl)) ?_
    try dsimp only [w0, w1, w2, w3]
    exact J1_snd  h
  · refine q_skip (dst := some 7) (t := 6) rfl rfl rfl (bfalse hc4) ?_
    refine q_skip (dst := some 8) (t := 6) rfl rfl rfl (bfalse hc4) ?_
    try dsimp only [w0, w1, w2, w3]
    refine qS 9 rfl (ok_pick_ff · (.tmp rfl) (bfalse hc4) (.bool _)) ?_
    try dsimp only [w0, w1, w2, w3]
    exact J1_snd  h
def f (k : Nat) (S : HS) : Option ((Bool) × HS) :=
  (Option.bind (valid_Nick.f k ([97, 45, 98] : List UInt8) S) fun p1 =>
  (if p1.1 = true then
  (Option.bind (valid_Nick.f k ([45, 97] : List UInt8) p1.2) fun p3 =>
  J0 k (!p3.1) p3.2) else
  J0 k false p1.2))
theorem snd {k : Nat} {S : HS}  {p : (Bool) × HS} (h : f k S = some p) : HCall Try.prog base W0 β0 7 [] S (fun v S1 => v = (.bool p.1) ∧ S1 = p.2) := by
  unfold f at h
  refine HCall.of_run at_.at_ body ?_
  show HRun Try.prog base W0 β0 7 none [.code c0] ⟨[τ, τ, τ, τ, τ, τ, τ, τ, τ, τ, τ, τ, τ, τ, τ, τ, τ], []⟩ S _
  refine q_seq rfl ?_
  refine q_region rfl rfl ?_
  refine qS 0 rfl (ok_assign · (.bool _)) ?_
  refine hr_region_end ?_
  try dsimp only [w0, w1, w2, w3]
  refine q_seq rfl ?_
  refine q_region rfl rfl ?_
  obtain ⟨p1, hp1, h⟩ := bindo h
  refine q_call (dst := some 1) rfl (.func _) (.cons (.str _) Evs.nil) (HInv.static valid_Nick.at_ valid_Nick.body (valid_Nick.snd  hp1)) ?_
  rintro _ _ ⟨rfl, rfl⟩
  refine qS 2 rfl (ok_move · (.tmp rfl)) ?_
  rcases ifc h with ⟨hc2, h⟩ | ⟨hc2, h⟩
  · obtain ⟨p3, hp3, h⟩ := bindo h
    refine q_call_g (t := 2) (dst := some 3) rfl rfl rfl hc2 (.func _) (.cons (.str _) Evs.nil) (HInv.static valid_Nick.at_ valid_Nick.body (valid_Nick.snd  hp3)) ?_
    rintro _ _ ⟨rfl, rfl⟩
    refine qG 2 4 rfl hc2 (ok_not · (.tmp rfl)) ?_
    try dsimp only [w0, w1, w2, w3]
    refine qS 5 rfl (ok_pick_tt · (.tmp rfl) hc2 (.tmp rfl)) ?_
    try dsimp only [w0, w1, w2, w3]
    exact J0_snd  h
  · refine q_skip (dst := some 3) (t := 2) rfl rfl rfl (bfalse hc2) ?_
    refine q_skip (dst := some 4) (t := 2) rfl rfl rfl (bfalse hc2) ?_
    try dsimp only [w0, w1, w2, w3]
    refine qS 5 rfl (ok_pick_ff · (.tmp rfl) (bfalse hc2) (.bool _)) ?_
    try dsimp only [w0, w1, w2, w3]
    exact J0_snd  h
end
end rollcalllaw03_awake
namespace strings_Builder_Len
theorem at_ : FnAt Try.prog 35 Try.f35 := ⟨Try.func35, by kernel_rfl⟩
noncomputable def d0 := (Try.f35.body).getD .skip
noncomputable def r1 := kR (kA d0)
noncomputable def r3 := kR (kA (kB d0))
noncomputable def c0 : Code := .seq (.region 0 r1 false) (.seq (.region 1 r3 false) .ret)
theorem body : Try.f35.body = some c0 := by kernel_rfl
section
variable {base : Nat} {W0 : World} {β0 : Bt}
def f (x0 : (Option HA)) (S : HS) : Option ((Int) × HS) :=
  (Option.bind (x0) fun p1 =>
  (Option.bind (HS.ldSl S (HA.fld p1 1)) fun p2 =>
  some ((Sl.len p2 : Int), S)))
theorem snd {x0 : (Option HA)} {S : HS}  {p : (Int) × HS} (h : f x0 S = some p) : HCall Try.prog base W0 β0 35 [(.ptr x0)] S (fun v S1 => v = (.int .i64 p.1) ∧ S1 = p.2) := by
  unfold f at h
  refine HCall.of_run at_.at_ body ?_
  show HRun Try.prog base W0 β0 35 none [.code c0] ⟨[(.ptr x0), τ, τ, τ, τ, τ, τ, τ], []⟩ S _
  refine q_seq rfl ?_
  refine q_region rfl rfl ?_
  refine qS 2 rfl (ok_assign · (.int _ _)) ?_
  refine hr_region_end ?_
  try dsimp only [w0, w1, w2, w3]
  refine q_seq rfl ?_
  refine q_region rfl rfl ?_
  refine qS 3 rfl (ok_move · (.tmp rfl)) ?_
  obtain ⟨p1, hp1, h⟩ := bindo h
  refine qS 4 rfl (ok_nilCheck_p · (.tmp rfl) hp1) ?_
  refine qS 5 rfl (ok_fieldAddr_s · fi39_1 (by decide) (.tmp rfl) rfl) ?_
  obtain ⟨p2, hp2, h⟩ := bindo h
  refine qS 6 rfl (ok_load_s · sc37 (.tmp rfl) rfl (ldSl_out hp2)) ?_
  try dsimp only [w0, w1, w2, w3]
  refine qS 7 rfl (ok_len_sl (q := Sl.a p2) (n := Sl.len p2) (z := Sl.cap p2) · rfl tu37 (.tmp rfl)) ?_
  refine qS 2 rfl (ok_assign · (.tmp rfl)) ?_
  refine hr_region_end ?_
  try dsimp only [w0, w1, w2, w3]
  cases h
  exact q_ret rfl at_.at_ rfl (res1 rfl rfl) ⟨rfl, rfl⟩
end
end strings_Builder_Len
namespace strings_Builder_copyCheck
theorem at_ : FnAt Try.prog 40 Try.f40 := ⟨Try.func40, by kernel_rfl⟩
noncomputable def d0 := (Try.f40.body).getD .skip
noncomputable def r1 := kR (kA d0)
noncomputable def r3 := kR (kA (kB d0))
noncomputable def r5 := kR (kA (kB (kB d0)))
noncomputable def c0 : Code := .seq (.region 0 r1 false) (.cond (.tmp 6) (.region 1 r3 false) (.seq (.region 2 r5 false) (.cond (.tmp 19) (kA (kB (kB (kB d0)))) .skip)))
theorem body : Try.f40.body = some c0 := by kernel_rfl
section
variable {base : Nat} {W0 : World} {β0 : Bt}
def J0  (S : HS) : Option ((Unit) × HS) :=
  some ((), S)
theorem J0_snd   {S : HS} {p : (Unit) × HS} {g0 g1 g2 g3 g4 g5 g6 g7 g8 g9 g10 g11 g12 g13 g14 g15 g16 g17 g18 g19 : HV} (h : J0  S = some p) : HRun Try.prog base W0 β0 40 none [] ⟨[g0, g1, g2, g3, g4, g5, g6, g7, g8, g9, g10, g11, g12, g13, g14, g15, g16, g17, g18, g19], []⟩ S (fun v S1 => v = (.tup []) ∧ S1 = p.2) := by
  unfold J0 at h
  cases h
  exact q_end at_.at_ rfl (res0 rfl) ⟨rfl, rfl⟩
def f (x0 : (Option HA)) (S : HS) : Option ((Unit) × HS) :=
  (Option.bind (x0) fun p1 =>
  (Option.bind (HS.ldP S (HA.fld p1 0)) fun p2 =>
  (if (Option.isNone p2) = true then
  (if HS.spot S x0 = true then
  (if HS.spotT S x0 39 2 = true then
  (Option.bind (x0) fun p6 =>
  (Option.bind (HS.sets S (HA.fld p6 0) [(.ptr x0)]) fun p7 =>
  J0 p7)) else none) else none) else
  (Option.bind (x0) fun p8 =>
  (Option.bind (HS.ldP S (HA.fld p8 0)) fun p9 =>
  (Option.bind (pEq p9 x0) fun p10 =>
  (if (!p10) = true then
  none else
  J0 S)))))))
theorem snd {x0 : (Option HA)} {S : HS}  {p : (Unit) × HS} (h : f x0 S = some p) : HCall Try.prog base W0 β0 40 [(.ptr x0)] S (fun v S1 => v = (.tup []) ∧ S1 = p.2) := by
  unfold f at h
  refine HCall.of_run at_.at_ body ?_
  show HRun Try.prog base W0 β0 40 none [.code c0] ⟨[(.ptr x0), τ, τ, τ, τ, τ, τ, τ, τ, τ, τ, τ, τ, τ, τ, τ, τ, τ, τ, τ], []⟩ S _
  refine q_seq rfl ?_
  refine q_region rfl rfl ?_
  refine qS 2 rfl (ok_move · (.tmp rfl)) ?_
  obtain ⟨p1, hp1, h⟩ := bindo h
  refine qS 3 rfl (ok_nilCheck_p · (.tmp rfl) hp1) ?_
  refine qS 4 rfl (ok_fieldAddr_s · fi39_0 (by decide) (.tmp rfl) rfl) ?_
  obtain ⟨p2, hp2, h⟩ := bindo h
  refine qS 5 rfl (ok_load_s · sc36 (.tmp rfl) rfl (ldP_out hp2)) ?_
  try dsimp only [w0, w1, w2, w3]
  refine qS 6 rfl (ok_nil_ptr · tu36 (.tmp rfl) (.inl ⟨rfl, rfl⟩)) ?_
  refine hr_region_end ?_
  try dsimp only [w0, w1, w2, w3]
  rcases ifc h with ⟨hc3, h⟩ | ⟨hc3, h⟩
  · refine q_cond_t rfl (.tmp rfl) hc3 ?_
    refine q_region rfl rfl ?_
    refine qS 7 rfl (ok_move · (.tmp rfl)) ?_
    refine qS 8 rfl (ok_move · (.tmp rfl)) ?_
    obtain ⟨hg4, h⟩ := gd h
    refine qS 9 rfl (ok_toUnsafe · tu36 tu48 nz39 (.tmp rfl) hg4) ?_
    refine qS 10 rfl (ok_noEscape · ext42 (.tmp rfl)) ?_
    try dsimp only [w0, w1, w2, w3]
    obtain ⟨hg5, h⟩ := gd h
    refine qS 11 rfl (ok_fromUnsafe (z := 2) · tu48 tu36 ih39 cz39 (cz39 ▸ by decide) (.tmp rfl) hg5) ?_
    obtain ⟨p6, hp6, h⟩ := bindo h
    refine qS 12 rfl (ok_nilCheck_p · (.tmp rfl) hp6) ?_
    refine qS 13 rfl (ok_fieldAddr_s · fi39_0 (by decide) (.tmp rfl) rfl) ?_
    obtain ⟨p7, hp7, h⟩ := bindo h
    refine qN rfl (ok_store_s (v := (.ptr x0)) · sz36 (.tmp rfl) rfl (.tmp rfl) rfl hp7) ?_
    refine hr_region_end ?_
    try dsimp only [w0, w1, w2, w3]
    try dsimp only [w0, w1, w2, w3]
    exact J0_snd  h
  · refine q_cond_f rfl (.tmp rfl) (bfalse hc3) ?_
    refine q_seq rfl ?_
    refine q_region rfl rfl ?_
    refine qS 14 rfl (ok_move · (.tmp rfl)) ?_
    obtain ⟨p8, hp8, h⟩ := bindo h
    refine qS 15 rfl (ok_nilCheck_p · (.tmp rfl) hp8) ?_
    refine qS 16 rfl (ok_fieldAddr_s · fi39_0 (by decide) (.tmp rfl) rfl) ?_
    obtain ⟨p9, hp9, h⟩ := bindo h
    refine qS 17 rfl (ok_load_s · sc36 (.tmp rfl) rfl (ldP_out hp9)) ?_
    try dsimp only [w0, w1, w2, w3]
    refine qS 18 rfl (ok_move · (.tmp rfl)) ?_
    obtain ⟨p10, hp10, h⟩ := bindo h
    refine qS 19 rfl (ok_ptr_eq · tu36 ih39 (.tmp rfl) (.tmp rfl) hp10 (.inr ⟨rfl, rfl⟩)) ?_
    refine hr_region_end ?_
    try dsimp only [w0, w1, w2, w3]
    rcases ifc h with ⟨hc11, h⟩ | ⟨hc11, h⟩
    · refine q_cond_t rfl (.tmp rfl) hc11 ?_
      cases h
    · refine q_cond_f rfl (.tmp rfl) (bfalse hc11) ?_
      refine q_skipc rfl ?_
      try dsimp only [w0, w1, w2, w3]
      exact J0_snd  h
end
end strings_Builder_copyCheck
namespace strings_Builder_WriteByte
theorem at_ : FnAt Try.prog 36 Try.f36 := ⟨Try.func36, by kernel_rfl⟩
noncomputable def d0 := (Try.f36.body).getD .skip
noncomputable def r1 := kR (kA d0)
noncomputable def r3 := kR (kA (kB d0))
noncomputable def r5 := kR (kA (kB (kB d0)))
noncomputable def r7 := kR (kA (kB (kB (kB d0))))
noncomputable def c0 : Code := .seq (.region 0 r1 false) (.seq (.region 1 r3 false) (.seq (.region 2 r5 false) (.seq (.region 3 r7 false) .ret)))
theorem body : Try.f36.body = some c0 := by kernel_rfl
section
variable {base : Nat} {W0 : World} {β0 : Bt}
def f (x0 : (Option HA)) (x1 : Int) (S : HS) : Option ((HV) × HS) :=
  (Option.bind (strings_Builder_copyCheck.f x0 S) fun p1 =>
  (Option.bind (x0) fun p2 =>
  (Option.bind (HS.ldSl p1.2 (HA.fld p2 1)) fun p3 =>
  (letv (HS.lit p1.2 [[(.int .u8 x1)]] 1) fun p4 =>
  (Option.bind (HS.rows (p4.2) (p4.1) 1) fun p5 =>
  (Option.bind (HS.appT (p4.2) p3 p5 1 5) fun p6 =>
  (Option.bind (x0) fun p7 =>
  (Option.bind (HS.sets (p6.2) (HA.fld p7 1) [(Sl.hv (p6.1))]) fun p8 =>
  some (HV.nilIf, p8)))))))))
theorem snd {x0 : (Option HA)} {x1 : Int} {S : HS}  {p : (HV) × HS} (h : f x0 x1 S = some p) : HCall Try.prog base W0 β0 36 [(.ptr x0), (.int .u8 x1)] S (fun v S1 => v = p.1 ∧ S1 = p.2) := by
  unfold f at h
  refine HCall.of_run at_.at_ body ?_
  show HRun Try.prog base W0 β0 36 none [.code c0] ⟨[(.ptr x0), (.int .u8 x1), τ, τ, τ, τ, τ, τ, τ, τ, τ, τ, τ, τ, τ, τ, τ], []⟩ S _
  refine q_seq rfl ?_
  refine q_region rfl rfl ?_
  refine qS 4 rfl (ok_assign · (.const fun _ => .nilIf)) ?_
  refine hr_region_end ?_
  try dsimp only [w0, w1, w2, w3]
  refine q_seq rfl ?_
  refine q_region rfl rfl ?_
  refine qS 5 rfl (ok_move · (.tmp rfl)) ?_
  obtain ⟨p1, hp1, h⟩ := bindo h
  refine q_call (dst := some 6) rfl (.func _) (.cons (.tmp rfl) Evs.nil) (HInv.static strings_Builder_copyCheck.at_ strings_Builder_copyCheck.body (strings_Builder_copyCheck.snd  hp1)) ?_
  rintro _ _ ⟨rfl, rfl⟩
  refine hr_region_end ?_
  try dsimp only [w0, w1, w2, w3]
  refine q_seq rfl ?_
  refine q_region rfl rfl ?_
  refine qS 7 rfl (ok_move · (.tmp rfl)) ?_
  refine qS 8 rfl (ok_move · (.tmp rfl)) ?_
  obtain ⟨p2, hp2, h⟩ := bindo h
  refine qS 9 rfl (ok_nilCheck_p · (.tmp rfl) hp2) ?_
  refine qS 10 rfl (ok_fieldAddr_s · fi39_1 (by decide) (.tmp rfl) rfl) ?_
  try dsimp only [w0, w1, w2, w3]
  obtain ⟨p3, hp3, h⟩ := bindo h
  refine qS 11 rfl (ok_load_s · sc37 (.tmp rfl) rfl (ldSl_out hp3)) ?_
  refine qS 12 rfl (ok_move · (.tmp rfl)) ?_
  obtain ⟨p4, hp4, h⟩ := leto h
  refine qS 13 rfl (ok_buildSlice_s (xs := [(.tmp 12)]) el37 · rfl rfl (by decide) (.cons (.tmp rfl) Evs.nil) rfl rfl hp4) ?_
  obtain ⟨p5, hp5, h⟩ := bindo h
  obtain ⟨p6, hp6, h⟩ := bindo h
  refine qS 14 rfl (ok_appendT (s := p3) (s1 := (p4.1)) el37 · rfl rfl ⟨_, tu37⟩ (.tmp rfl) (.tmp rfl) hp5 hp6) ?_
  try dsimp only [w0, w1, w2, w3]
  obtain ⟨p7, hp7, h⟩ := bindo h
  refine qS 15 rfl (ok_nilCheck_p · (.tmp rfl) hp7) ?_
  refine qS 16 rfl (ok_fieldAddr_s · fi39_1 (by decide) (.tmp rfl) rfl) ?_
  obtain ⟨p8, hp8, h⟩ := bindo h
  refine qN rfl (ok_store_s (v := (Sl.hv (p6.1))) · sz37 (.tmp rfl) rfl (.tmp rfl) rfl hp8) ?_
  refine hr_region_end ?_
  try dsimp only [w0, w1, w2, w3]
  refine q_seq rfl ?_
  refine q_region rfl rfl ?_
  refine qS 4 rfl (ok_assign · (.const fun _ => .nilIf)) ?_
  refine hr_region_end ?_
  try dsimp only [w0, w1, w2, w3]
  cases h
  exact q_ret rfl at_.at_ rfl (res1 rfl rfl) ⟨rfl, rfl⟩
end
end strings_Builder_WriteByte
namespace strings_Builder_String
theorem at_ : FnAt Try.prog 37 Try.f37 := ⟨Try.func37, by kernel_rfl⟩
noncomputable def d0 := (Try.f37.body).getD .skip
noncomputable def r1 := kR (kA d0)
noncomputable def r3 := kR (kA (kB d0))
noncomputable def c0 : Code := .seq (.region 0 r1 false) (.seq (.region 1 r3 true) .ret)
theorem body : Try.f37.body = some c0 := by kernel_rfl
section
variable {base : Nat} {W0 : World} {β0 : Bt}
def f (x0 : (Option HA)) (S : HS) : Option (((List UInt8)) × HS) :=
  (Option.bind (x0) fun p1 =>
  (Option.bind (HS.ldSl S (HA.fld p1 1)) fun p2 =>
  (Option.bind (Sl.data p2) fun p3 =>
  (Option.bind (x0) fun p4 =>
  (Option.bind (HS.ldSl S (HA.fld p4 1)) fun p5 =>
  (Option.bind (HS.ustr S p3 (Sl.len p5 : Int) 5) fun p6 =>
  some ((p6.1), (p6.2))))))))
theorem snd {x0 : (Option HA)} {S : HS}  {p : ((List UInt8)) × HS} (h : f x0 S = some p) : HCall Try.prog base W0 β0 37 [(.ptr x0)] S (fun v S1 => v = (.str p.1) ∧ S1 = p.2) := by
  unfold f at h
  refine HCall.of_run at_.at_ body ?_
  show HRun Try.prog base W0 β0 37 none [.code c0] ⟨[(.ptr x0), τ, τ, τ, τ, τ, τ, τ, τ, τ, τ, τ, τ, τ], []⟩ S _
  refine q_seq rfl ?_
  refine q_region rfl rfl ?_
  refine qS 2 rfl (ok_assign · (.str _)) ?_
  refine hr_region_end ?_
  try dsimp only [w0, w1, w2, w3]
  refine q_seq rfl ?_
  refine x_start (cls := [0, 0, 0, 1, 0, 0, 0, 0, 1, 0, 2, 0]) (rk := [0, 1, 2, 3, 4, 5, 6, 7, 8, 9, 10, 11]) rfl (by kernel_rfl) ?_
  refine yf 3 [0] rfl (ok_move · (.tmp rfl)) ?_
  obtain ⟨p1, hp1, h⟩ := bindo h
  refine yf 4 [3] rfl (ok_nilCheck_p · (.tmp rfl) hp1) ?_
  refine yf 5 [4] rfl (ok_fieldAddr_s · fi39_1 (by decide) (.tmp rfl) rfl) ?_
  obtain ⟨p2, hp2, h⟩ := bindo h
  refine yr 6 [5] rfl (ok_load_s · sc37 (.tmp rfl) rfl (ldSl_out hp2)) ?_
  try dsimp only [w0, w1, w2, w3]
  obtain ⟨p3, hp3, h⟩ := bindo h
  refine yf 7 [6] rfl (ok_sliceData (s := p2) · (.tmp rfl) hp3) ?_
  refine yf 8 [0] rfl (ok_move · (.tmp rfl)) ?_
  obtain ⟨p4, hp4, h⟩ := bindo h
  refine yf 9 [8] rfl (ok_nilCheck_p · (.tmp rfl) hp4) ?_
  refine yf 10 [9] rfl (ok_fieldAddr_s · fi39_1 (by decide) (.tmp rfl) rfl) ?_
  try dsimp only [w0, w1, w2, w3]
  obtain ⟨p5, hp5, h⟩ := bindo h
  refine yr 11 [10] rfl (ok_load_s · sc37 (.tmp rfl) rfl (ldSl_out hp5)) ?_
  refine yf 12 [11] rfl (ok_len_sl (q := Sl.a p5) (n := Sl.len p5) (z := Sl.cap p5) · rfl tu37 (.tmp rfl)) ?_
  obtain ⟨p6, hp6, h⟩ := bindo h
  refine ye 13 [7, 12] rfl (ok_unsafeString · tu47 ch5 (.tmp rfl) (.tmp rfl) hp6) ?_
  refine yf 2 [13] rfl (ok_assign · (.tmp rfl)) ?_
  refine x_rest rfl ?_
  refine hr_region_end ?_
  try dsimp only [w0, w1, w2, w3]
  cases h
  exact q_ret rfl at_.at_ rfl (res1 rfl rfl) ⟨rfl, rfl⟩
end
end strings_Builder_String
namespace valid_Clean
theorem at_ : FnAt Try.prog 24 Try.f24 := ⟨Try.func24, by kernel_rfl⟩
noncomputable def d0 := (Try.f24.body).getD .skip
noncomputable def r1 := kR (kA d0)
noncomputable def r3 := kR (kA (kB d0))
noncomputable def r5 := kR (kA (kB (kB d0)))
noncomputable def d6 := kB (kB (kB d0))
noncomputable def r8 := kR (kA (kA d6))
noncomputable def d10 := kA (kB (kA d6))
noncomputable def r13 := kR (kA (kA (kA d10)))
noncomputable def r20 := kR (kA (kA (kA (kB (kA d10)))))
noncomputable def r22 := kR (kA (kB (kA (kA (kB (kA d10))))))
noncomputable def r24 := kR (kB (kB (kA d10)))
noncomputable def r26 := kR (kA (kB d6))
noncomputable def c25 : Code := .seq (.region 8 r26 false) .ret
noncomputable def c24 : Code := .region 5 r24 false
noncomputable def c17 : Code := .seq (.block 1 (.seq (.region 6 r20 false) (.cond (.tmp 26) (.region 7 r22 false) .skip))) c24
noncomputable def c14 : Code := .cond (.tmp 17) .skip (.exit 0)
noncomputable def c11 : Code := .seq (.seq (.region 4 r13 false) c14) c17
noncomputable def c0 : Code := .seq (.region 0 r1 false) (.seq (.region 1 r3 false) (.seq (.region 2 r5 false) (.seq (.seq (.region 3 r8 false) (.block 0 (.loop c11))) c25)))
theorem body : Try.f24.body = some c0 := by kernel_rfl
section
variable {base : Nat} {W0 : World} {β0 : Bt}
def J2 (k : Nat) (rec0 : (List UInt8) → Int → (Option HA) → (Option HA) → Int → HS → Option (((List UInt8)) × HS)) (y0 : (List UInt8)) (y1 : Int) (y5 : (Option HA)) (y6 : (Option HA)) (y7 : Int) (S : HS) : Option (((List UInt8)) × HS) :=
  rec0 y0 y1 y5 y6 (w64 (y7 + 1)) S
theorem J2_snd {k : Nat} {rec0 : (List UInt8) → Int → (Option HA) → (Option HA) → Int → HS → Option (((List UInt8)) × HS)} (hrec0 : ∀ ⦃y0 : (List UInt8)⦄ ⦃y1 : Int⦄ ⦃y5 : (Option HA)⦄ ⦃y6 : (Option HA)⦄ ⦃y7 : Int⦄ ⦃S : HS⦄ ⦃p : ((List UInt8)) × HS⦄ ⦃g2 g3 g4 g8 g9 g10 g11 g12 g13 g14 g15 g16 g17 g18 g19 g20 g21 g22 g23 g24 g25 g26 g27 g28 g29 g30 g31 : HV⦄, rec0 y0 y1 y5 y6 y7 S = some p → HRun Try.prog base W0 β0 24 none [.inLoop c11, .inBlock 0, .code c25] ⟨[(.str y0), (.int .i64 y1), g2, g3, g4, (.ptr y5), (.ptr y6), (.int .i64 y7), g8, g9, g10, g11, g12, g13, g14, g15, g16, g17, g18, g19, g20, g21, g22, g23, g24, g25, g26, g27, g28, g29, g30, g31], []⟩ S (fun v S1 => v = (.str p.1) ∧ S1 = p.2)) {y0 : (List UInt8)} {y1 : Int} {y5 : (Option HA)} {y6 : (Option HA)} {y7 : Int} {S : HS} {p : ((List UInt8)) × HS} {g2 g3 g4 g8 g9 g10 g11 g12 g13 g14 g15 g16 g17 g18 g19 g20 g21 g22 g23 g24 g25 g26 g27 g28 g29 g30 g31 : HV} (h : J2 k rec0 y0 y1 y5 y6 y7 S = some p) : HRun Try.prog base W0 β0 24 none [.code c24, .inLoop c11, .inBlock 0, .code c25] ⟨[(.str y0), (.int .i64 y1), g2, g3, g4, (.ptr y5), (.ptr y6), (.int .i64 y7), g8, g9, g10, g11, g12, g13, g14, g15, g16, g17, g18, g19, g20, g21, g22, g23, g24, g25, g26, g27, g28, g29, g30, g31], []⟩ S (fun v S1 => v = (.str p.1) ∧ S1 = p.2) := by
  unfold J2 at h
  refine q_region rfl rfl ?_
  refine qS 18 rfl (ok_move · (.tmp rfl)) ?_
  refine qS 19 rfl (ok_ibin · (.tmp rfl) (.int _ _) rfl) ?_
  refine qS 7 rfl (ok_assign · (.tmp rfl)) ?_
  refine hr_region_end ?_
  try dsimp only [w0, w1, w2, w3]
  try dsimp only [w0, w1, w2, w3]
  exact hrec0 h
def J1 (k : Nat) (rec0 : (List UInt8) → Int → (Option HA) → (Option HA) → Int → HS → Option (((List UInt8)) × HS)) (y0 : (List UInt8)) (y1 : Int) (y5 : (Option HA)) (y6 : (Option HA)) (y7 : Int) (y17 : Bool) (S : HS) : Option (((List UInt8)) × HS) :=
  (if y17 = true then
  (Option.bind (sat y0 y7) fun p9 =>
  (Option.bind (y5) fun p10 =>
  (if 0 ≤ ((UInt8.toNat p9 : Int) : Int) ∧ ((UInt8.toNat p9 : Int) : Int) < 256 then
  (Option.bind (HS.ldI S .u16 (HA.fld p10 (Int.toNat (UInt8.toNat p9 : Int)))) fun p12 =>
  (if (!decide ((iand .u16 p12 64) = 0)) = true then
  (Option.bind (sat y0 y7) fun p14 =>
  (Option.bind (strings_Builder_WriteByte.f y6 (UInt8.toNat p14 : Int) S) fun p15 =>
  J2 k rec0 y0 y1 y5 y6 y7 p15.2)) else
  J2 k rec0 y0 y1 y5 y6 y7 S)) else none))) else
  (Option.bind (strings_Builder_String.f y6 S) fun p16 =>
  some (p16.1, p16.2)))
theorem J1_snd {k : Nat} {rec0 : (List UInt8) → Int → (Option HA) → (Option HA) → Int → HS → Option (((List UInt8)) × HS)} (hrec0 : ∀ ⦃y0 : (List UInt8)⦄ ⦃y1 : Int⦄ ⦃y5 : (Option HA)⦄ ⦃y6 : (Option HA)⦄ ⦃y7 : Int⦄ ⦃S : HS⦄ ⦃p : ((List UInt8)) × HS⦄ ⦃g2 g3 g4 g8 g9 g10 g11 g12 g13 g14 g15 g16 g17 g18 g19 g20 g21 g22 g23 g24 g25 g26 g27 g28 g29 g30 g31 : HV⦄, rec0 y0 y1 y5 y6 y7 S = some p → HRun Try.prog base W0 β0 24 none [.inLoop c11, .inBlock 0, .code c25] ⟨[(.str y0), (.int .i64 y1), g2, g3, g4, (.ptr y5), (.ptr y6), (.int .i64 y7), g8, g9, g10, g11, g12, g13, g14, g15, g16, g17, g18, g19, g20, g21, g22, g23, g24, g25, g26, g27, g28, g29, g30, g31], []⟩ S (fun v S1 => v = (.str p.1) ∧ S1 = p.2)) {y0 : (List UInt8)} {y1 : Int} {y5 : (Option HA)} {y6 : (Option HA)} {y7 : Int} {y17 : Bool} {S : HS} {p : ((List UInt8)) × HS} {g2 g3 g4 g8 g9 g10 g11 g12 g13 g14 g15 g16 g18 g19 g20 g21 g22 g23 g24 g25 g26 g27 g28 g29 g30 g31 : HV} (h : J1 k rec0 y0 y1 y5 y6 y7 y17 S = some p) : HRun Try.prog base W0 β0 24 none [.code c14, .code c17, .inLoop c11, .inBlock 0, .code c25] ⟨[(.str y0), (.int .i64 y1), g2, g3, g4, (.ptr y5), (.ptr y6), (.int .i64 y7), g8, g9, g10, g11, g12, g13, g14, g15, g16, (.bool y17), g18, g19, g20, g21, g22, g23, g24, g25, g26, g27, g28, g29, g30, g31], []⟩ S (fun v S1 => v = (.str p.1) ∧ S1 = p.2) := by
  unfold J1 at h
  rcases ifc h with ⟨hc8, h⟩ | ⟨hc8, h⟩
  · refine q_cond_t rfl (.tmp rfl) hc8 ?_
    refine q_skipc rfl ?_
    refine q_seq rfl ?_
    refine q_block rfl ?_
    refine q_seq rfl ?_
    refine q_region rfl rfl ?_
    refine qS 20 rfl (ok_move · (.tmp rfl)) ?_
    refine qS 21 rfl (ok_move · (.tmp rfl)) ?_
    obtain ⟨p9, hp9, h⟩ := bindo h
    refine qS 22 rfl (ok_index_s · tu9 (.tmp rfl) (.tmp rfl) hp9) ?_
    obtain ⟨p10, hp10, h⟩ := bindo h
    obtain ⟨hg11, h⟩ := gd h
    refine qS 23 rfl (ok_indexAddr_arr · ta34 sz30 (.tmp rfl) hp10 (.tmp rfl) hg11) ?_
    try dsimp only [w0, w1, w2, w3]
    obtain ⟨p12, hp12, h⟩ := bindo h
    refine qS 24 rfl (ok_load_s · sc30 (.tmp rfl) rfl (ldI_out hp12)) ?_
    refine qS 25 rfl (ok_ibin · (.tmp rfl) (.int _ _) rfl) ?_
    refine qS 26 rfl (ok_ibin · (.tmp rfl) (.int _ _) rfl) ?_
    refine hr_region_end ?_
    try dsimp only [w0, w1, w2, w3]
    rcases ifc h with ⟨hc13, h⟩ | ⟨hc13, h⟩
    · refine q_cond_t rfl (.tmp rfl) hc13 ?_
      refine q_region rfl rfl ?_
      refine qS 27 rfl (ok_move · (.tmp rfl)) ?_
      refine qS 28 rfl (ok_move · (.tmp rfl)) ?_
      obtain ⟨p14, hp14, h⟩ := bindo h
      refine qS 29 rfl (ok_index_s · tu9 (.tmp rfl) (.tmp rfl) hp14) ?_
      obtain ⟨p15, hp15, h⟩ := bindo h
      refine q_call (dst := some 30) rfl (.func _) (.cons (.tmp rfl) (.cons (.tmp rfl) Evs.nil)) (HInv.static strings_Builder_WriteByte.at_ strings_Builder_WriteByte.body (strings_Builder_WriteByte.snd  hp15)) ?_
      rintro _ _ ⟨rfl, rfl⟩
      refine hr_region_end ?_
      try dsimp only [w0, w1, w2, w3]
      refine hr_inBlock ?_
      try dsimp only [w0, w1, w2, w3]
      exact J2_snd hrec0 h
    · refine q_cond_f rfl (.tmp rfl) (bfalse hc13) ?_
      refine q_skipc rfl ?_
      refine hr_inBlock ?_
      try dsimp only [w0, w1, w2, w3]
      exact J2_snd hrec0 h
  · refine q_cond_f rfl (.tmp rfl) (bfalse hc8) ?_
    refine q_exit rfl rfl ?_
    refine q_seq rfl ?_
    refine q_region rfl rfl ?_
    obtain ⟨p16, hp16, h⟩ := bindo h
    refine q_call (dst := some 31) rfl (.func _) (.cons (.tmp rfl) Evs.nil) (HInv.static strings_Builder_String.at_ strings_Builder_String.body (strings_Builder_String.snd  hp16)) ?_
    rintro _ _ ⟨rfl, rfl⟩
    refine qS 4 rfl (ok_assign · (.tmp rfl)) ?_
    refine hr_region_end ?_
    try dsimp only [w0, w1, w2, w3]
    cases h
    exact q_ret rfl at_.at_ rfl (res1 rfl rfl) ⟨rfl, rfl⟩
def L0 (k : Nat) : Nat → (List UInt8) → Int → (Option HA) → (Option HA) → Int → HS → Option (((List UInt8)) × HS)
  | 0, _, _, _, _, _, _ => none
  | n + 1, y0, y1, y5, y6, y7, S =>
    (if y7 < (List.length y0 : Int) then
    (Option.bind (strings_Builder_Len.f y6 S) fun p7 =>
    J1 k (L0 k n) y0 y1 y5 y6 y7 (decide (p7.1 < y1)) p7.2) else
    J1 k (L0 k n) y0 y1 y5 y6 y7 false S)
theorem L0_snd {k : Nat}  : ∀ {n : Nat} ⦃y0 : (List UInt8)⦄ ⦃y1 : Int⦄ ⦃y5 : (Option HA)⦄ ⦃y6 : (Option HA)⦄ ⦃y7 : Int⦄ ⦃S : HS⦄ ⦃p : ((List UInt8)) × HS⦄ ⦃g2 g3 g4 g8 g9 g10 g11 g12 g13 g14 g15 g16 g17 g18 g19 g20 g21 g22 g23 g24 g25 g26 g27 g28 g29 g30 g31 : HV⦄, L0 k n y0 y1 y5 y6 y7 S = some p → HRun Try.prog base W0 β0 24 none [.inLoop c11, .inBlock 0, .code c25] ⟨[(.str y0), (.int .i64 y1), g2, g3, g4, (.ptr y5), (.ptr y6), (.int .i64 y7), g8, g9, g10, g11, g12, g13, g14, g15, g16, g17, g18, g19, g20, g21, g22, g23, g24, g25, g26, g27, g28, g29, g30, g31], []⟩ S (fun v S1 => v = (.str p.1) ∧ S1 = p.2) := by
  intro n
  induction n with
  | zero => intro _ _ _ _ _ _ _ _ _ _ _ _ _ _ _ _ _ _ _ _ _ _ _ _ _ _ _ _ _ _ _ _ _ _ h; cases h
  | succ n ih =>
    intro y0 y1 y5 y6 y7 S p g2 g3 g4 g8 g9 g10 g11 g12 g13 g14 g15 g16 g17 g18 g19 g20 g21 g22 g23 g24 g25 g26 g27 g28 g29 g30 g31 h
    simp only [L0] at h
    refine hr_inLoop ?_
    refine q_seq rfl ?_
    refine q_seq rfl ?_
    refine q_region rfl rfl ?_
    refine qS 9 rfl (ok_move · (.tmp rfl)) ?_
    refine qS 10 rfl (ok_move · (.tmp rfl)) ?_
    refine qS 11 rfl (ok_len_str · rfl tu9 (.tmp rfl)) ?_
    refine qS 12 rfl (ok_ibin · (.tmp rfl) (.tmp rfl) rfl) ?_
    try dsimp only [w0, w1, w2, w3]
    refine qS 13 rfl (ok_move · (.tmp rfl)) ?_
    rcases ifc h with ⟨hc6, h⟩ | ⟨hc6, h⟩
    · obtain ⟨p7, hp7, h⟩ := bindo h
      refine q_call_g (t := 13) (dst := some 14) rfl rfl rfl (decide_eq_true hc6) (.func _) (.cons (.tmp rfl) Evs.nil) (HInv.static strings_Builder_Len.at_ strings_Builder_Len.body (strings_Builder_Len.snd  hp7)) ?_
      rintro _ _ ⟨rfl, rfl⟩
      refine qG 13 15 rfl (decide_eq_true hc6) (ok_move · (.tmp rfl)) ?_
      refine qG 13 16 rfl (decide_eq_true hc6) (ok_ibin · (.tmp rfl) (.tmp rfl) rfl) ?_
      try dsimp only [w0, w1, w2, w3]
      refine qS 17 rfl (ok_pick_tt · (.tmp rfl) (decide_eq_true hc6) (.tmp rfl)) ?_
      refine hr_region_end ?_
      try dsimp only [w0, w1, w2, w3]
      try dsimp only [w0, w1, w2, w3]
      exact J1_snd ih h
    · refine q_skip (dst := some 14) (t := 13) rfl rfl rfl (decide_eq_false hc6) ?_
      refine q_skip (dst := some 15) (t := 13) rfl rfl rfl (decide_eq_false hc6) ?_
      refine q_skip (dst := some 16) (t := 13) rfl rfl rfl (decide_eq_false hc6) ?_
      try dsimp only [w0, w1, w2, w3]
      refine qS 17 rfl (ok_pick_ff · (.tmp rfl) (decide_eq_false hc6) (.bool _)) ?_
      refine hr_region_end ?_
      try dsimp only [w0, w1, w2, w3]
      try dsimp only [w0, w1, w2, w3]
      exact J1_snd ih h
def f (k : Nat) (x0 : (List UInt8)) (x1 : Int) (S : HS) : Option (((List UInt8)) × HS) :=
  (Option.bind (valid_kinds.f k S) fun p1 =>
  (letv (HS.new p1.2 (.cells 256 [List.replicate 256 (.int .u16 0)] true)) fun p2 =>
  (if List.length p1.1 = 256 ∧ List.all p1.1 HV.flat = true then
  (Option.bind (HS.sets p2 (HA.cell0 p1.2.next) p1.1) fun p4 =>
  (letv (HS.newM p4 (.cells 2 [[(.ptr none), (Sl.hv Sl.nil)]] true) 41) fun p5 =>
  L0 k k x0 x1 (some (HA.cell0 p1.2.next)) (some (HA.cell0 p4.next)) 0 p5)) else none)))
theorem snd {k : Nat} {x0 : (List UInt8)} {x1 : Int} {S : HS}  {p : ((List UInt8)) × HS} (h : f k x0 x1 S = some p) : HCall Try.prog base W0 β0 24 [(.str x0), (.int .i64 x1)] S (fun v S1 => v = (.str p.1) ∧ S1 = p.2) := by
  unfold f at h
  refine HCall.of_run at_.at_ body ?_
  show HRun Try.prog base W0 β0 24 none [.code c0] ⟨[(.str x0), (.int .i64 x1), τ, τ, τ, τ, τ, τ, τ, τ, τ, τ, τ, τ, τ, τ, τ, τ, τ, τ, τ, τ, τ, τ, τ, τ, τ, τ, τ, τ, τ, τ], []⟩ S _
  refine q_seq rfl ?_
  refine q_region rfl rfl ?_
  refine qS 4 rfl (ok_assign · (.str _)) ?_
  refine hr_region_end ?_
  try dsimp only [w0, w1, w2, w3]
  refine q_seq rfl ?_
  refine q_region rfl rfl ?_
  obtain ⟨p1, hp1, h⟩ := bindo h
  refine q_call (dst := some 8) rfl (.func _) Evs.nil (HInv.static valid_kinds.at_ valid_kinds.body (valid_kinds.snd  hp1)) ?_
  rintro _ _ ⟨rfl, rfl⟩
  obtain ⟨p2, hp2, h⟩ := leto h
  refine qS 5 rfl (ok_alloc_arr · za34 (fun β => .int _ _) (by decide) rfl hp2) ?_
  obtain ⟨hg3, h⟩ := gd h
  obtain ⟨p4, hp4, h⟩ := bindo h
  refine qN rfl (ok_store_arr · sz34 (.tmp rfl) rfl (.tmp rfl) hg3 hp4) ?_
  refine hr_region_end ?_
  try dsimp only [w0, w1, w2, w3]
  refine q_seq rfl ?_
  refine q_region rfl rfl ?_
  obtain ⟨p5, hp5, h⟩ := leto h
  refine qS 6 rfl (ok_allocT · zi39 zr39 (by decide) rfl hp5) ?_
  refine hr_region_end ?_
  try dsimp only [w0, w1, w2, w3]
  refine q_seq rfl ?_
  refine q_seq rfl ?_
  refine q_region rfl rfl ?_
  refine qS 7 rfl (ok_assign · (.int _ _)) ?_
  refine hr_region_end ?_
  try dsimp only [w0, w1, w2, w3]
  refine q_block rfl ?_
  refine q_loop rfl ?_
  try dsimp only [w0, w1, w2, w3]
  exact L0_snd  h
end
end valid_Clean
namespace rollcallref03_Clean
theorem at_ : FnAt Try.prog 25 Try.f25 := ⟨Try.func25, by kernel_rfl⟩
noncomputable def d0 := (Try.f25.body).getD .skip
noncomputable def r1 := kR (kA d0)
noncomputable def r3 := kR (kA (kB d0))
noncomputable def d5 := kA (kB (kB d0))
noncomputable def r6 := kR (kA d5)
noncomputable def d9 := kA (kA (kB d5))
noncomputable def r11 := kR (kA (kA d9))
noncomputable def r18 := kR (kA (kA (kA (kB d9))))
noncomputable def r20 := kR (kA (kB (kA (kA (kB d9)))))
noncomputable def r22 := kR (kB (kB d9))
noncomputable def r24 := kR (kA (kB (kB (kB d0))))
noncomputable def c23 : Code := .seq (.region 7 r24 false) .ret
noncomputable def c22 : Code := .region 4 r22 false
noncomputable def c19 : Code := .cond (.tmp 34) (.region 6 r20 false) .skip
noncomputable def c9 : Code := .seq (.seq (.region 3 r11 false) (.cond (.tmp 10) .skip (.exit 0))) (.seq (.block 1 (.seq (.region 5 r18 false) c19)) c22)
noncomputable def c0 : Code := .seq (.region 0 r1 false) (.seq (.region 1 r3 false) (.seq (.seq (.region 2 r6 false) (.block 0 (.loop c9))) c23))
theorem body : Try.f25.body = some c0 := by kernel_rfl
section
variable {base : Nat} {W0 : World} {β0 : Bt}
def J4 (k : Nat) (rec0 : (List UInt8) → Int → (List UInt8) → Int → Option ((List UInt8))) (y0 : (List UInt8)) (y1 : Int) (y5 : (List UInt8)) (y6 : Int) : Option ((List UInt8)) :=
  rec0 y0 y1 y5 (w64 (y6 + 1))
theorem J4_snd {k : Nat} {rec0 : (List UInt8) → Int → (List UInt8) → Int → Option ((List UInt8))} (hrec0 : ∀ ⦃y0 : (List UInt8)⦄ ⦃y1 : Int⦄ ⦃y5 : (List UInt8)⦄ ⦃y6 : Int⦄ ⦃S : HS⦄ ⦃p : (List UInt8)⦄ ⦃g2 g3 g4 g7 g8 g9 g10 g11 g12 g13 g14 g15 g16 g17 g18 g19 g20 g21 g22 g23 g24 g25 g26 g27 g28 g29 g30 g31 g32 g33 g34 g35 g36 g37 g38 g39 g40 g41 g42 : HV⦄, rec0 y0 y1 y5 y6 = some p → HRun Try.prog base W0 β0 25 none [.inLoop c9, .inBlock 0, .code c23] ⟨[(.str y0), (.int .i64 y1), g2, g3, g4, (.str y5), (.int .i64 y6), g7, g8, g9, g10, g11, g12, g13, g14, g15, g16, g17, g18, g19, g20, g21, g22, g23, g24, g25, g26, g27, g28, g29, g30, g31, g32, g33, g34, g35, g36, g37, g38, g39, g40, g41, g42], []⟩ S (fun v S1 => v = (.str p) ∧ S1 = S)) {y0 : (List UInt8)} {y1 : Int} {y5 : (List UInt8)} {y6 : Int} {S : HS} {p : (List UInt8)} {g2 g3 g4 g7 g8 g9 g10 g11 g12 g13 g14 g15 g16 g17 g18 g19 g20 g21 g22 g23 g24 g25 g26 g27 g28 g29 g30 g31 g32 g33 g34 g35 g36 g37 g38 g39 g40 g41 g42 : HV} (h : J4 k rec0 y0 y1 y5 y6 = some p) : HRun Try.prog base W0 β0 25 none [.code c22, .inLoop c9, .inBlock 0, .code c23] ⟨[(.str y0), (.int .i64 y1), g2, g3, g4, (.str y5), (.int .i64 y6), g7, g8, g9, g10, g11, g12, g13, g14, g15, g16, g17, g18, g19, g20, g21, g22, g23, g24, g25, g26, g27, g28, g29, g30, g31, g32, g33, g34, g35, g36, g37, g38, g39, g40, g41, g42], []⟩ S (fun v S1 => v = (.str p) ∧ S1 = S) := by
  unfold J4 at h
  refine q_region rfl rfl ?_
  refine qS 11 rfl (ok_move · (.tmp rfl)) ?_
  refine qS 12 rfl (ok_ibin · (.tmp rfl) (.int _ _) rfl) ?_
  refine qS 6 rfl (ok_assign · (.tmp rfl)) ?_
  refine hr_region_end ?_
  try dsimp only [w0, w1, w2, w3]
  try dsimp only [w0, w1, w2, w3]
  exact hrec0 h
def J3 (k : Nat) (rec0 : (List UInt8) → Int → (List UInt8) → Int → Option ((List UInt8))) (y0 : (List UInt8)) (y1 : Int) (y5 : (List UInt8)) (y6 : Int) (y34 : Bool) : Option ((List UInt8)) :=
  (if y34 = true then
  (if 0 ≤ (y6 : Int) ∧ (y6 : Int) ≤ (w64 (y6 + 1)) ∧ ((w64 (y6 + 1)) : Int) ≤ (List.length y0 : Int) then
  (if List.length y5 + List.length (ssub y0 y6 (w64 (y6 + 1))) ≤ 9223372036854775807 then
  J4 k rec0 y0 y1 (y5 ++ (ssub y0 y6 (w64 (y6 + 1)))) y6 else none) else none) else
  J4 k rec0 y0 y1 y5 y6)
theorem J3_snd {k : Nat} {rec0 : (List UInt8) → Int → (List UInt8) → Int → Option ((List UInt8))} (hrec0 : ∀ ⦃y0 : (List UInt8)⦄ ⦃y1 : Int⦄ ⦃y5 : (List UInt8)⦄ ⦃y6 : Int⦄ ⦃S : HS⦄ ⦃p : (List UInt8)⦄ ⦃g2 g3 g4 g7 g8 g9 g10 g11 g12 g13 g14 g15 g16 g17 g18 g19 g20 g21 g22 g23 g24 g25 g26 g27 g28 g29 g30 g31 g32 g33 g34 g35 g36 g37 g38 g39 g40 g41 g42 : HV⦄, rec0 y0 y1 y5 y6 = some p → HRun Try.prog base W0 β0 25 none [.inLoop c9, .inBlock 0, .code c23] ⟨[(.str y0), (.int .i64 y1), g2, g3, g4, (.str y5), (.int .i64 y6), g7, g8, g9, g10, g11, g12, g13, g14, g15, g16, g17, g18, g19, g20, g21, g22, g23, g24, g25, g26, g27, g28, g29, g30, g31, g32, g33, g34, g35, g36, g37, g38, g39, g40, g41, g42], []⟩ S (fun v S1 => v = (.str p) ∧ S1 = S)) {y0 : (List UInt8)} {y1 : Int} {y5 : (List UInt8)} {y6 : Int} {y34 : Bool} {S : HS} {p : (List UInt8)} {g2 g3 g4 g7 g8 g9 g10 g11 g12 g13 g14 g15 g16 g17 g18 g19 g20 g21 g22 g23 g24 g25 g26 g27 g28 g29 g30 g31 g32 g33 g35 g36 g37 g38 g39 g40 g41 g42 : HV} (h : J3 k rec0 y0 y1 y5 y6 y34 = some p) : HRun Try.prog base W0 β0 25 none [.code c19, .inBlock 1, .code c22, .inLoop c9, .inBlock 0, .code c23] ⟨[(.str y0), (.int .i64 y1), g2, g3, g4, (.str y5), (.int .i64 y6), g7, g8, g9, g10, g11, g12, g13, g14, g15, g16, g17, g18, g19, g20, g21, g22, g23, g24, g25, g26, g27, g28, g29, g30, g31, g32, g33, (.bool y34), g35, g36, g37, g38, g39, g40, g41, g42], []⟩ S (fun v S1 => v = (.str p) ∧ S1 = S) := by
  unfold J3 at h
  rcases ifc h with ⟨hc8, h⟩ | ⟨hc8, h⟩
  · refine q_cond_t rfl (.tmp rfl) hc8 ?_
    refine q_region rfl rfl ?_
    refine qS 35 rfl (ok_move · (.tmp rfl)) ?_
    refine qS 36 rfl (ok_move · (.tmp rfl)) ?_
    refine qS 37 rfl (ok_move · (.tmp rfl)) ?_
    refine qS 38 rfl (ok_move · (.tmp rfl)) ?_
    try dsimp only [w0, w1, w2, w3]
    refine qS 39 rfl (ok_ibin · (.tmp rfl) (.int _ _) rfl) ?_
    obtain ⟨hg9, h⟩ := gd h
    refine qS 40 rfl (ok_slice_str (kl := .i64) (kh := .i64) (l := y6) (h := (w64 (y6 + 1))) · tu9 (.tmp rfl) (.inr ⟨_, rfl, (.tmp rfl)⟩) (.inr ⟨_, rfl, (.tmp rfl)⟩) hg9.1 hg9.2.1 hg9.2.2) ?_
    obtain ⟨hg10, h⟩ := gd h
    refine qS 41 rfl (ok_sadd · (.tmp rfl) (.tmp rfl) hg10) ?_
    refine qS 5 rfl (ok_assign · (.tmp rfl)) ?_
    refine hr_region_end ?_
    try dsimp only [w0, w1, w2, w3]
    refine hr_inBlock ?_
    try dsimp only [w0, w1, w2, w3]
    exact J4_snd hrec0 h
  · refine q_cond_f rfl (.tmp rfl) (bfalse hc8) ?_
    refine q_skipc rfl ?_
    refine hr_inBlock ?_
    try dsimp only [w0, w1, w2, w3]
    exact J4_snd hrec0 h
def J2 (k : Nat) (rec0 : (List UInt8) → Int → (List UInt8) → Int → Option ((List UInt8))) (y0 : (List UInt8)) (y1 : Int) (y5 : (List UInt8)) (y6 : Int) (y28 : Bool) : Option ((List UInt8)) :=
  (if y28 = true then
  J3 k rec0 y0 y1 y5 y6 (decide ((List.length y5 : Int) < y1)) else
  J3 k rec0 y0 y1 y5 y6 false)
theorem J2_snd {k : Nat} {rec0 : (List UInt8) → Int → (List UInt8) → Int → Option ((List UInt8))} (hrec0 : ∀ ⦃y0 : (List UInt8)⦄ ⦃y1 : Int⦄ ⦃y5 : (List UInt8)⦄ ⦃y6 : Int⦄ ⦃S : HS⦄ ⦃p : (List UInt8)⦄ ⦃g2 g3 g4 g7 g8 g9 g10 g11 g12 g13 g14 g15 g16 g17 g18 g19 g20 g21 g22 g23 g24 g25 g26 g27 g28 g29 g30 g31 g32 g33 g34 g35 g36 g37 g38 g39 g40 g41 g42 : HV⦄, rec0 y0 y1 y5 y6 = some p → HRun Try.prog base W0 β0 25 none [.inLoop c9, .inBlock 0, .code c23] ⟨[(.str y0), (.int .i64 y1), g2, g3, g4, (.str y5), (.int .i64 y6), g7, g8, g9, g10, g11, g12, g13, g14, g15, g16, g17, g18, g19, g20, g21, g22, g23, g24, g25, g26, g27, g28, g29, g30, g31, g32, g33, g34, g35, g36, g37, g38, g39, g40, g41, g42], []⟩ S (fun v S1 => v = (.str p) ∧ S1 = S)) {y0 : (List UInt8)} {y1 : Int} {y5 : (List UInt8)} {y6 : Int} {y28 : Bool} {S : HS} {p : (List UInt8)} {g2 g3 g4 g7 g8 g9 g10 g11 g12 g13 g14 g15 g16 g17 g18 g19 g20 g21 g22 g23 g24 g25 g26 g27 g29 g30 g31 g32 g33 g34 g35 g36 g37 g38 g39 g40 g41 g42 : HV} (h : J2 k rec0 y0 y1 y5 y6 y28 = some p) : HRun Try.prog base W0 β0 25 none [.inRegion r18 [16, 17, 18, 19, 20, 21], .code c19, .inBlock 1, .code c22, .inLoop c9, .inBlock 0, .code c23] ⟨[(.str y0), (.int .i64 y1), g2, g3, g4, (.str y5), (.int .i64 y6), g7, g8, g9, g10, g11, g12, g13, g14, g15, g16, g17, g18, g19, g20, g21, g22, g23, g24, g25, g26, g27, (.bool y28), g29, g30, g31, g32, g33, g34, g35, g36, g37, g38, g39, g40, g41, g42], []⟩ S (fun v S1 => v = (.str p) ∧ S1 = S) := by
  unfold J2 at h
  refine qS 29 rfl (ok_move · (.tmp rfl)) ?_
  rcases ifc h with ⟨hc7, h⟩ | ⟨hc7, h⟩
  · refine qG 29 30 rfl hc7 (ok_move · (.tmp rfl)) ?_
    refine qG 29 31 rfl hc7 (ok_len_str · rfl tu9 (.tmp rfl)) ?_
    refine qG 29 32 rfl hc7 (ok_move · (.tmp rfl)) ?_
    try dsimp only [w0, w1, w2, w3]
    refine qG 29 33 rfl hc7 (ok_ibin · (.tmp rfl) (.tmp rfl) rfl) ?_
    refine qS 34 rfl (ok_pick_tt · (.tmp rfl) hc7 (.tmp rfl)) ?_
    refine hr_region_end ?_
    try dsimp only [w0, w1, w2, w3]
    try dsimp only [w0, w1, w2, w3]
    exact J3_snd hrec0 h
  · refine q_skip (dst := some 30) (t := 29) rfl rfl rfl (bfalse hc7) ?_
    refine q_skip (dst := some 31) (t := 29) rfl rfl rfl (bfalse hc7) ?_
    refine q_skip (dst := some 32) (t := 29) rfl rfl rfl (bfalse hc7) ?_
    try dsimp only [w0, w1, w2, w3]
    refine q_skip (dst := some 33) (t := 29) rfl rfl rfl (bfalse hc7) ?_
    refine qS 34 rfl (ok_pick_ff · (.tmp rfl) (bfalse hc7) (.bool _)) ?_
    refine hr_region_end ?_
    try dsimp only [w0, w1, w2, w3]
    try dsimp only [w0, w1, w2, w3]
    exact J3_snd hrec0 h
def J1 (k : Nat) (rec0 : (List UInt8) → Int → (List UInt8) → Int → Option ((List UInt8))) (y0 : (List UInt8)) (y1 : Int) (y5 : (List UInt8)) (y6 : Int) (y22 : Bool) : Option ((List UInt8)) :=
  (if y22 = true then
  (Option.bind (sat y0 y6) fun p6 =>
  J2 k rec0 y0 y1 y5 y6 (!decide ((UInt8.toNat p6 : Int) = 13))) else
  J2 k rec0 y0 y1 y5 y6 false)
theorem J1_snd {k : Nat} {rec0 : (List UInt8) → Int → (List UInt8) → Int → Option ((List UInt8))} (hrec0 : ∀ ⦃y0 : (List UInt8)⦄ ⦃y1 : Int⦄ ⦃y5 : (List UInt8)⦄ ⦃y6 : Int⦄ ⦃S : HS⦄ ⦃p : (List UInt8)⦄ ⦃g2 g3 g4 g7 g8 g9 g10 g11 g12 g13 g14 g15 g16 g17 g18 g19 g20 g21 g22 g23 g24 g25 g26 g27 g28 g29 g30 g31 g32 g33 g34 g35 g36 g37 g38 g39 g40 g41 g42 : HV⦄, rec0 y0 y1 y5 y6 = some p → HRun Try.prog base W0 β0 25 none [.inLoop c9, .inBlock 0, .code c23] ⟨[(.str y0), (.int .i64 y1), g2, g3, g4, (.str y5), (.int .i64 y6), g7, g8, g9, g10, g11, g12, g13, g14, g15, g16, g17, g18, g19, g20, g21, g22, g23, g24, g25, g26, g27, g28, g29, g30, g31, g32, g33, g34, g35, g36, g37, g38, g39, g40, g41, g42], []⟩ S (fun v S1 => v = (.str p) ∧ S1 = S)) {y0 : (List UInt8)} {y1 : Int} {y5 : (List UInt8)} {y6 : Int} {y22 : Bool} {S : HS} {p : (List UInt8)} {g2 g3 g4 g7 g8 g9 g10 g11 g12 g13 g14 g15 g16 g17 g18 g19 g20 g21 g23 g24 g25 g26 g27 g28 g29 g30 g31 g32 g33 g34 g35 g36 g37 g38 g39 g40 g41 g42 : HV} (h : J1 k rec0 y0 y1 y5 y6 y22 = some p) : HRun Try.prog base W0 β0 25 none [.inRegion r18 [10, 11, 12, 13, 14, 15, 16, 17, 18, 19, 20, 21], .code c19, .inBlock 1, .code c22, .inLoop c9, .inBlock 0, .code c23] ⟨[(.str y0), (.int .i64 y1), g2, g3, g4, (.str y5), (.int .i64 y6), g7, g8, g9, g10, g11, g12, g13, g14, g15, g16, g17, g18, g19, g20, g21, (.bool y22), g23, g24, g25, g26, g27, g28, g29, g30, g31, g32, g33, g34, g35, g36, g37, g38, g39, g40, g41, g42], []⟩ S (fun v S1 => v = (.str p) ∧ S1 = S) := by
  unfold J1 at h
  refine qS 23 rfl (ok_move · (.tmp rfl)) ?_
  rcases ifc h with ⟨hc5, h⟩ | ⟨hc5, h⟩
  · refine qG 23 24 rfl hc5 (ok_move · (.tmp rfl)) ?_
    try dsimp only [w0, w1, w2, w3]
    refine qG 23 25 rfl hc5 (ok_move · (.tmp rfl)) ?_
    obtain ⟨p6, hp6, h⟩ := bindo h
    refine qG 23 26 rfl hc5 (ok_index_s · tu9 (.tmp rfl) (.tmp rfl) hp6) ?_
    refine qG 23 27 rfl hc5 (ok_ibin · (.tmp rfl) (.int _ _) rfl) ?_
    refine qS 28 rfl (ok_pick_tt · (.tmp rfl) hc5 (.tmp rfl)) ?_
    try dsimp only [w0, w1, w2, w3]
    try dsimp only [w0, w1, w2, w3]
    exact J2_snd hrec0 h
  · refine q_skip (dst := some 24) (t := 23) rfl rfl rfl (bfalse hc5) ?_
    try dsimp only [w0, w1, w2, w3]
    refine q_skip (dst := some 25) (t := 23) rfl rfl rfl (bfalse hc5) ?_
    refine q_skip (dst := some 26) (t := 23) rfl rfl rfl (bfalse hc5) ?_
    refine q_skip (dst := some 27) (t := 23) rfl rfl rfl (bfalse hc5) ?_
    refine qS 28 rfl (ok_pick_ff · (.tmp rfl) (bfalse hc5) (.bool _)) ?_
    try dsimp only [w0, w1, w2, w3]
    try dsimp only [w0, w1, w2, w3]
    exact J2_snd hrec0 h
def L0 (k : Nat) : Nat → (List UInt8) → Int → (List UInt8) → Int → Option ((List UInt8))
  | 0, _, _, _, _ => none
  | n + 1, y0, y1, y5, y6 =>
    (if y6 < (List.length y0 : Int) then
    (Option.bind (sat y0 y6) fun p2 =>
    (if (!decide ((UInt8.toNat p2 : Int) = 0)) = true then
    (Option.bind (sat y0 y6) fun p4 =>
    J1 k (L0 k n) y0 y1 y5 y6 (!decide ((UInt8.toNat p4 : Int) = 10))) else
    J1 k (L0 k n) y0 y1 y5 y6 false)) else
    some y5)
theorem L0_snd {k : Nat}  : ∀ {n : Nat} ⦃y0 : (List UInt8)⦄ ⦃y1 : Int⦄ ⦃y5 : (List UInt8)⦄ ⦃y6 : Int⦄ ⦃S : HS⦄ ⦃p : (List UInt8)⦄ ⦃g2 g3 g4 g7 g8 g9 g10 g11 g12 g13 g14 g15 g16 g17 g18 g19 g20 g21 g22 g23 g24 g25 g26 g27 g28 g29 g30 g31 g32 g33 g34 g35 g36 g37 g38 g39 g40 g41 g42 : HV⦄, L0 k n y0 y1 y5 y6 = some p → HRun Try.prog base W0 β0 25 none [.inLoop c9, .inBlock 0, .code c23] ⟨[(.str y0), (.int .i64 y1), g2, g3, g4, (.str y5), (.int .i64 y6), g7, g8, g9, g10, g11, g12, g13, g14, g15, g16, g17, g18, g19, g20, g21, g22, g23, g24, g25, g26, g27, g28, g29, g30, g31, g32, g33, g34, g35, g36, g37, g38, g39, g40, g41, g42], []⟩ S (fun v S1 => v = (.str p) ∧ S1 = S) := by
  intro n
  induction n with
  | zero => intro _ _ _ _ _ _ _ _ _ _ _ _ _ _ _ _ _ _ _ _ _ _ _ _ _ _ _ _ _ _ _ _ _ _ _ _ _ _ _ _ _ _ _ _ _ h; cases h
  | succ n ih =>
    intro y0 y1 y5 y6 S p g2 g3 g4 g7 g8 g9 g10 g11 g12 g13 g14 g15 g16 g17 g18 g19 g20 g21 g22 g23 g24 g25 g26 g27 g28 g29 g30 g31 g32 g33 g34 g35 g36 g37 g38 g39 g40 g41 g42 h
    simp only [L0] at h
    refine hr_inLoop ?_
    refine q_seq rfl ?_
    refine q_seq rfl ?_
    refine q_region rfl rfl ?_
    refine qS 7 rfl (ok_move · (.tmp rfl)) ?_
    refine qS 8 rfl (ok_move · (.tmp rfl)) ?_
    refine qS 9 rfl (ok_len_str · rfl tu9 (.tmp rfl)) ?_
    refine qS 10 rfl (ok_ibin · (.tmp rfl) (.tmp rfl) rfl) ?_
    refine hr_region_end ?_
    try dsimp only [w0, w1, w2, w3]
    rcases ifc h with ⟨hc1, h⟩ | ⟨hc1, h⟩
    · refine q_cond_t rfl (.tmp rfl) (decide_eq_true hc1) ?_
      refine q_skipc rfl ?_
      refine q_seq rfl ?_
      refine q_block rfl ?_
      refine q_seq rfl ?_
      refine q_region rfl rfl ?_
      refine qS 13 rfl (ok_move · (.tmp rfl)) ?_
      refine qS 14 rfl (ok_move · (.tmp rfl)) ?_
      obtain ⟨p2, hp2, h⟩ := bindo h
      refine qS 15 rfl (ok_index_s · tu9 (.tmp rfl) (.tmp rfl) hp2) ?_
      refine qS 16 rfl (ok_ibin · (.tmp rfl) (.int _ _) rfl) ?_
      try dsimp only [w0, w1, w2, w3]
      refine qS 17 rfl (ok_move · (.tmp rfl)) ?_
      rcases ifc h with ⟨hc3, h⟩ | ⟨hc3, h⟩
      · refine qG 17 18 rfl hc3 (ok_move · (.tmp rfl)) ?_
        refine qG 17 19 rfl hc3 (ok_move · (.tmp rfl)) ?_
        obtain ⟨p4, hp4, h⟩ := bindo h
        refine qG 17 20 rfl hc3 (ok_index_s · tu9 (.tmp rfl) (.tmp rfl) hp4) ?_
        try dsimp only [w0, w1, w2, w3]
        refine qG 17 21 rfl hc3 (ok_ibin · (.tmp rfl) (.int _ _) rfl) ?_
        refine qS 22 rfl (ok_pick_tt · (.tmp rfl) hc3 (.tmp rfl)) ?_
        try dsimp only [w0, w1, w2, w3]
        exact J1_snd ih h
      · refine q_skip (dst := some 18) (t := 17) rfl rfl rfl (bfalse hc3) ?_
        refine q_skip (dst := some 19) (t := 17) rfl rfl rfl (bfalse hc3) ?_
        refine q_skip (dst := some 20) (t := 17) rfl rfl rfl (bfalse hc3) ?_
        try dsimp only [w0, w1, w2, w3]
        refine q_skip (dst := some 21) (t := 17) rfl rfl rfl (bfalse hc3) ?_
        refine qS 22 rfl (ok_pick_ff · (.tmp rfl) (bfalse hc3) (.bool _)) ?_
        try dsimp only [w0, w1, w2, w3]
        exact J1_snd ih h
    · refine q_cond_f rfl (.tmp rfl) (decide_eq_false hc1) ?_
      refine q_exit rfl rfl ?_
      refine q_seq rfl ?_
      refine q_region rfl rfl ?_
      refine qS 42 rfl (ok_move · (.tmp rfl)) ?_
      refine qS 4 rfl (ok_assign · (.tmp rfl)) ?_
      refine hr_region_end ?_
      try dsimp only [w0, w1, w2, w3]
      cases h
      exact q_ret rfl at_.at_ rfl (res1 rfl rfl) ⟨rfl, rfl⟩
def f (k : Nat) (x0 : (List UInt8)) (x1 : Int) : Option ((List UInt8)) :=
  L0 k k x0 x1 ([] : List UInt8) 0
theorem snd {k : Nat} {x0 : (List UInt8)} {x1 : Int} {S : HS}  {p : (List UInt8)} (h : f k x0 x1 = some p) : HCall Try.prog base W0 β0 25 [(.str x0), (.int .i64 x1)] S (fun v S1 => v = (.str p) ∧ S1 = S) := by
  unfold f at h
  refine HCall.of_run at_.at_ body ?_
  show HRun Try.prog base W0 β0 25 none [.code c0] ⟨[(.str x0), (.int .i64 x1), τ, τ, τ, τ, τ, τ, τ, τ, τ, τ, τ, τ, τ, τ, τ, τ, τ, τ, τ, τ, τ, τ, τ, τ, τ, τ, τ, τ, τ, τ, τ, τ, τ, τ, τ, τ, τ, τ, τ, τ, τ], []⟩ S _
  refine q_seq rfl ?_
  refine q_region rfl rfl ?_
  refine qS 4 rfl (ok_assign · (.str _)) ?_
  refine hr_region_end ?_
  try dsimp only [w0, w1, w2, w3]
  refine q_seq rfl ?_
  refine q_region rfl rfl ?_
  refine qS 5 rfl (ok_assign · (.str _)) ?_
  refine hr_region_end ?_
  try dsimp only [w0, w1, w2, w3]
  refine q_seq rfl ?_
  refine q_seq rfl ?_
  refine q_region rfl rfl ?_
  refine qS 6 rfl (ok_assign · (.int _ _)) ?_
  refine hr_region_end ?_
  try dsimp only [w0, w1, w2, w3]
  refine q_block rfl ?_
  refine q_loop rfl ?_
  try dsimp only [w0, w1, w2, w3]
  exact L0_snd  h
end
end rollcallref03_Clean
namespace valid_Text
theorem at_ : FnAt Try.prog 22 Try.f22 := ⟨Try.func22, by kernel_rfl⟩
noncomputable def d0 := (Try.f22.body).getD .skip
noncomputable def r1 := kR (kA d0)
noncomputable def r3 := kR (kA (kB d0))
noncomputable def c0 : Code := .seq (.region 0 r1 false) (.seq (.region 1 r3 false) .ret)
theorem body : Try.f22.body = some c0 := by kernel_rfl
section
variable {base : Nat} {W0 : World} {β0 : Bt}
def f (k : Nat) (x0 : (List UInt8)) (S : HS) : Option ((Bool) × HS) :=
  (Option.bind (valid_all.f k x0 0 (List.length x0 : Int) 64 S) fun p1 =>
  some (p1.1, p1.2))
theorem snd {k : Nat} {x0 : (List UInt8)} {S : HS}  {p : (Bool) × HS} (h : f k x0 S = some p) : HCall Try.prog base W0 β0 22 [(.str x0)] S (fun v S1 => v = (.bool p.1) ∧ S1 = p.2) := by
  unfold f at h
  refine HCall.of_run at_.at_ body ?_
  show HRun Try.prog base W0 β0 22 none [.code c0] ⟨[(.str x0), τ, τ, τ, τ, τ, τ], []⟩ S _
  refine q_seq rfl ?_
  refine q_region rfl rfl ?_
  refine qS 2 rfl (ok_assign · (.bool _)) ?_
  refine hr_region_end ?_
  try dsimp only [w0, w1, w2, w3]
  refine q_seq rfl ?_
  refine q_region rfl rfl ?_
  refine qS 3 rfl (ok_move · (.tmp rfl)) ?_
  refine qS 4 rfl (ok_move · (.tmp rfl)) ?_
  refine qS 5 rfl (ok_len_str · rfl tu9 (.tmp rfl)) ?_
  obtain ⟨p1, hp1, h⟩ := bindo h
  refine q_call (dst := some 6) rfl (.func _) (.cons (.tmp rfl) (.cons (.int _ _) (.cons (.tmp rfl) (.cons (.int _ _) Evs.nil)))) (HInv.static valid_all.at_ valid_all.body (valid_all.snd  hp1)) ?_
  rintro _ _ ⟨rfl, rfl⟩
  try dsimp only [w0, w1, w2, w3]
  refine qS 2 rfl (ok_assign · (.tmp rfl)) ?_
  refine hr_region_end ?_
  try dsimp only [w0, w1, w2, w3]
  cases h
  exact q_ret rfl at_.at_ rfl (res1 rfl rfl) ⟨rfl, rfl⟩
end
end valid_Text
namespace rollcalllaw03_ValidCleans
theorem at_ : FnAt Try.prog 6 Try.f6 := ⟨Try.func6, by kernel_rfl⟩
noncomputable def d0 := (Try.f6.body).getD .skip
noncomputable def r1 := kR (kA d0)
noncomputable def r4 := kR (kA (kA (kB d0)))
noncomputable def r7 := kR (kA (kA (kB (kA (kB d0)))))
noncomputable def r12 := kR (kA (kA (kB (kB d0))))
noncomputable def r15 := kR (kA (kA (kB (kA (kB (kB d0))))))
noncomputable def r19 := kR (kA (kB (kB (kB d0))))
noncomputable def r21 := kR (kA (kB (kB (kB (kB d0)))))
noncomputable def c22 : Code := .ret
noncomputable def c0 : Code := .seq (.region 0 r1 false) (.seq (.seq (.region 1 r4 false) (.cond (.tmp 7) (.seq (.region 2 r7 false) .ret) .skip)) (.seq (.seq (.region 3 r12 false) (.cond (.tmp 10) (.seq (.region 4 r15 false) .ret) .skip)) (.seq (.region 5 r19 false) (.seq (.region 6 r21 false) c22))))
theorem body : Try.f6.body = some c0 := by kernel_rfl
section
variable {base : Nat} {W0 : World} {β0 : Bt}
def J2 (k : Nat) (y36 : Bool) (S : HS) : Option ((Bool) × HS) :=
  some (y36, S)
theorem J2_snd {k : Nat}  {y36 : Bool} {S : HS} {p : (Bool) × HS} {g0 g1 g2 g3 g4 g5 g6 g7 g8 g9 g10 g11 g12 g13 g14 g15 g16 g17 g18 g19 g20 g21 g22 g23 g24 g25 g26 g27 g28 g29 g30 g31 g32 g33 g34 g35 : HV} (h : J2 k y36 S = some p) : HRun Try.prog base W0 β0 6 none [.inRegion r21 [23], .code c22] ⟨[g0, g1, g2, g3, g4, g5, g6, g7, g8, g9, g10, g11, g12, g13, g14, g15, g16, g17, g18, g19, g20, g21, g22, g23, g24, g25, g26, g27, g28, g29, g30, g31, g32, g33, g34, g35, (.bool y36)], []⟩ S (fun v S1 => v = (.bool p.1) ∧ S1 = p.2) := by
  unfold J2 at h
  refine qS 4 rfl (ok_assign · (.tmp rfl)) ?_
  refine hr_region_end ?_
  try dsimp only [w0, w1, w2, w3]
  cases h
  exact q_ret rfl at_.at_ rfl (res1 rfl rfl) ⟨rfl, rfl⟩
def J1 (k : Nat) (y1 : Int) (y5 : (List UInt8)) (y29 : Bool) (S : HS) : Option ((Bool) × HS) :=
  (if y29 = true then
  J2 k (decide ((List.length y5 : Int) ≤ (mx y1 0))) S else
  J2 k false S)
theorem J1_snd {k : Nat}  {y1 : Int} {y5 : (List UInt8)} {y29 : Bool} {S : HS} {p : (Bool) × HS} {g0 g2 g3 g4 g6 g7 g8 g9 g10 g11 g12 g13 g14 g15 g16 g17 g18 g19 g20 g21 g22 g23 g24 g25 g26 g27 g28 g30 g31 g32 g33 g34 g35 g36 : HV} (h : J1 k y1 y5 y29 S = some p) : HRun Try.prog base W0 β0 6 none [.inRegion r21 [16, 17, 18, 19, 20, 21, 22, 23], .code c22] ⟨[g0, (.int .i64 y1), g2, g3, g4, (.str y5), g6, g7, g8, g9, g10, g11, g12, g13, g14, g15, g16, g17, g18, g19, g20, g21, g22, g23, g24, g25, g26, g27, g28, (.bool y29), g30, g31, g32, g33, g34, g35, g36], []⟩ S (fun v S1 => v = (.bool p.1) ∧ S1 = p.2) := by
  unfold J1 at h
  refine qS 30 rfl (ok_move · (.tmp rfl)) ?_
  rcases ifc h with ⟨hc10, h⟩ | ⟨hc10, h⟩
  · refine qG 30 31 rfl hc10 (ok_move · (.tmp rfl)) ?_
    refine qG 30 32 rfl hc10 (ok_len_str · rfl tu9 (.tmp rfl)) ?_
    refine qG 30 33 rfl hc10 (ok_move · (.tmp rfl)) ?_
    try dsimp only [w0, w1, w2, w3]
    refine qG 30 34 rfl hc10 (ok_max · (.tmp rfl) (.int _ _)) ?_
    refine qG 30 35 rfl hc10 (ok_ibin · (.tmp rfl) (.tmp rfl) rfl) ?_
    refine qS 36 rfl (ok_pick_tt · (.tmp rfl) hc10 (.tmp rfl)) ?_
    try dsimp only [w0, w1, w2, w3]
    exact J2_snd  h
  · refine q_skip (dst := some 31) (t := 30) rfl rfl rfl (bfalse hc10) ?_
    refine q_skip (dst := some 32) (t := 30) rfl rfl rfl (bfalse hc10) ?_
    refine q_skip (dst := some 33) (t := 30) rfl rfl rfl (bfalse hc10) ?_
    try dsimp only [w0, w1, w2, w3]
    refine q_skip (dst := some 34) (t := 30) rfl rfl rfl (bfalse hc10) ?_
    refine q_skip (dst := some 35) (t := 30) rfl rfl rfl (bfalse hc10) ?_
    refine qS 36 rfl (ok_pick_ff · (.tmp rfl) (bfalse hc10) (.bool _)) ?_
    try dsimp only [w0, w1, w2, w3]
    exact J2_snd  h
def J0 (k : Nat) (y1 : Int) (y5 : (List UInt8)) (y22 : Bool) (S : HS) : Option ((Bool) × HS) :=
  (if y22 = true then
  (Option.bind (valid_Clean.f k y5 y1 S) fun p9 =>
  J1 k y1 y5 (decide (p9.1 = y5)) p9.2) else
  J1 k y1 y5 false S)
theorem J0_snd {k : Nat}  {y1 : Int} {y5 : (List UInt8)} {y22 : Bool} {S : HS} {p : (Bool) × HS} {g0 g2 g3 g4 g6 g7 g8 g9 g10 g11 g12 g13 g14 g15 g16 g17 g18 g19 g20 g21 g23 g24 g25 g26 g27 g28 g29 g30 g31 g32 g33 g34 g35 g36 : HV} (h : J0 k y1 y5 y22 S = some p) : HRun Try.prog base W0 β0 6 none [.inRegion r21 [9, 10, 11, 12, 13, 14, 15, 16, 17, 18, 19, 20, 21, 22, 23], .code c22] ⟨[g0, (.int .i64 y1), g2, g3, g4, (.str y5), g6, g7, g8, g9, g10, g11, g12, g13, g14, g15, g16, g17, g18, g19, g20, g21, (.bool y22), g23, g24, g25, g26, g27, g28, g29, g30, g31, g32, g33, g34, g35, g36], []⟩ S (fun v S1 => v = (.bool p.1) ∧ S1 = p.2) := by
  unfold J0 at h
  refine qS 23 rfl (ok_move · (.tmp rfl)) ?_
  rcases ifc h with ⟨hc8, h⟩ | ⟨hc8, h⟩
  · refine qG 23 24 rfl hc8 (ok_move · (.tmp rfl)) ?_
    refine qG 23 25 rfl hc8 (ok_move · (.tmp rfl)) ?_
    try dsimp only [w0, w1, w2, w3]
    obtain ⟨p9, hp9, h⟩ := bindo h
    refine q_call_g (t := 23) (dst := some 26) rfl rfl rfl hc8 (.func _) (.cons (.tmp rfl) (.cons (.tmp rfl) Evs.nil)) (HInv.static valid_Clean.at_ valid_Clean.body (valid_Clean.snd  hp9)) ?_
    rintro _ _ ⟨rfl, rfl⟩
    refine qG 23 27 rfl hc8 (ok_move · (.tmp rfl)) ?_
    refine qG 23 28 rfl hc8 (ok_sbin · (.tmp rfl) (.tmp rfl) rfl) ?_
    refine qS 29 rfl (ok_pick_tt · (.tmp rfl) hc8 (.tmp rfl)) ?_
    try dsimp only [w0, w1, w2, w3]
    try dsimp only [w0, w1, w2, w3]
    exact J1_snd  h
  · refine q_skip (dst := some 24) (t := 23) rfl rfl rfl (bfalse hc8) ?_
    refine q_skip (dst := some 25) (t := 23) rfl rfl rfl (bfalse hc8) ?_
    try dsimp only [w0, w1, w2, w3]
    refine q_skip (dst := some 26) (t := 23) rfl rfl rfl (bfalse hc8) ?_
    refine q_skip (dst := some 27) (t := 23) rfl rfl rfl (bfalse hc8) ?_
    refine q_skip (dst := some 28) (t := 23) rfl rfl rfl (bfalse hc8) ?_
    refine qS 29 rfl (ok_pick_ff · (.tmp rfl) (bfalse hc8) (.bool _)) ?_
    try dsimp only [w0, w1, w2, w3]
    try dsimp only [w0, w1, w2, w3]
    exact J1_snd  h
def f (k : Nat) (x0 : (List UInt8)) (x1 : Int) (S : HS) : Option ((Bool) × HS) :=
  (Option.bind (rollcalllaw03_awake.f k S) fun p1 =>
  (if (!p1.1) = true then
  some (false, p1.2) else
  (if (List.length x0 : Int) > 200 then
  some (true, p1.2) else
  (Option.bind (valid_Clean.f k x0 x1 p1.2) fun p4 =>
  (Option.bind (rollcallref03_Clean.f k x0 x1) fun p5 =>
  (if p4.1 = p5 then
  (Option.bind (valid_Text.f k p4.1 p4.2) fun p7 =>
  J0 k x1 p4.1 p7.1 p7.2) else
  J0 k x1 p4.1 false p4.2))))))
theorem snd {k : Nat} {x0 : (List UInt8)} {x1 : Int} {S : HS}  {p : (Bool) × HS} (h : f k x0 x1 S = some p) : HCall Try.prog base W0 β0 6 [(.str x0), (.int .i64 x1)] S (fun v S1 => v = (.bool p.1) ∧ S1 = p.2) := by
  unfold f at h
  refine HCall.of_run at_.at_ body ?_
  show HRun Try.prog base W0 β0 6 none [.code c0] ⟨[(.str x0), (.int .i64 x1), τ, τ, τ, τ, τ, τ, τ, τ, τ, τ, τ, τ, τ, τ, τ, τ, τ, τ, τ, τ, τ, τ, τ, τ, τ, τ, τ, τ, τ, τ, τ, τ, τ, τ, τ], []⟩ S _
  refine q_seq rfl ?_
  refine q_region rfl rfl ?_
  refine qS 4 rfl (ok_assign · (.bool _)) ?_
  refine hr_region_end ?_
  try dsimp only [w0, w1, w2, w3]
  refine q_seq rfl ?_
  refine q_seq rfl ?_
  refine q_region rfl rfl ?_
  obtain ⟨p1, hp1, h⟩ := bindo h
  refine q_call (dst := some 6) rfl (.func _) Evs.nil (HInv.static rollcalllaw03_awake.at_ rollcalllaw03_awake.body (rollcalllaw03_awake.snd  hp1)) ?_
  rintro _ _ ⟨rfl, rfl⟩
  refine qS 7 rfl (ok_not · (.tmp rfl)) ?_
  refine hr_region_end ?_
  try dsimp only [w0, w1, w2, w3]
  rcases ifc h with ⟨hc2, h⟩ | ⟨hc2, h⟩
  · refine q_cond_t rfl (.tmp rfl) hc2 ?_
    refine q_seq rfl ?_
    refine q_region rfl rfl ?_
    refine qS 4 rfl (ok_assign · (.bool _)) ?_
    refine hr_region_end ?_
    try dsimp only [w0, w1, w2, w3]
    cases h
    exact q_ret rfl at_.at_ rfl (res1 rfl rfl) ⟨rfl, rfl⟩
  · refine q_cond_f rfl (.tmp rfl) (bfalse hc2) ?_
    refine q_skipc rfl ?_
    refine q_seq rfl ?_
    refine q_seq rfl ?_
    refine q_region rfl rfl ?_
    refine qS 8 rfl (ok_move · (.tmp rfl)) ?_
    refine qS 9 rfl (ok_len_str · rfl tu9 (.tmp rfl)) ?_
    refine qS 10 rfl (ok_ibin · (.tmp rfl) (.int _ _) rfl) ?_
    refine hr_region_end ?_
    try dsimp only [w0, w1, w2, w3]
    rcases ifc h with ⟨hc3, h⟩ | ⟨hc3, h⟩
    · refine q_cond_t rfl (.tmp rfl) (decide_eq_true hc3) ?_
      refine q_seq rfl ?_
      refine q_region rfl rfl ?_
      refine qS 4 rfl (ok_assign · (.bool _)) ?_
      refine hr_region_end ?_
      try dsimp only [w0, w1, w2, w3]
      cases h
      exact q_ret rfl at_.at_ rfl (res1 rfl rfl) ⟨rfl, rfl⟩
    · refine q_cond_f rfl (.tmp rfl) (decide_eq_false hc3) ?_
      refine q_skipc rfl ?_
      refine q_seq rfl ?_
      refine q_region rfl rfl ?_
      refine qS 11 rfl (ok_move · (.tmp rfl)) ?_
      refine qS 12 rfl (ok_move · (.tmp rfl)) ?_
      obtain ⟨p4, hp4, h⟩ := bindo h
      refine q_call (dst := some 13) rfl (.func _) (.cons (.tmp rfl) (.cons (.tmp rfl) Evs.nil)) (HInv.static valid_Clean.at_ valid_Clean.body (valid_Clean.snd  hp4)) ?_
      rintro _ _ ⟨rfl, rfl⟩
      refine qS 5 rfl (ok_assign · (.tmp rfl)) ?_
      refine hr_region_end ?_
      try dsimp only [w0, w1, w2, w3]
      refine q_seq rfl ?_
      refine q_region rfl rfl ?_
      refine qS 14 rfl (ok_move · (.tmp rfl)) ?_
      refine qS 15 rfl (ok_move · (.tmp rfl)) ?_
      refine qS 16 rfl (ok_move · (.tmp rfl)) ?_
      obtain ⟨p5, hp5, h⟩ := bindo h
      refine q_call (dst := some 17) rfl (.func _) (.cons (.tmp rfl) (.cons (.tmp rfl) Evs.nil)) (HInv.static rollcallref03_Clean.at_ rollcallref03_Clean.body (rollcallref03_Clean.snd  hp5)) ?_
      rintro _ _ ⟨rfl, rfl⟩
      try dsimp only [w0, w1, w2, w3]
      refine qS 18 rfl (ok_sbin · (.tmp rfl) (.tmp rfl) rfl) ?_
      refine qS 19 rfl (ok_move · (.tmp rfl)) ?_
      rcases ifc h with ⟨hc6, h⟩ | ⟨hc6, h⟩
      · refine qG 19 20 rfl (decide_eq_true hc6) (ok_move · (.tmp rfl)) ?_
        obtain ⟨p7, hp7, h⟩ := bindo h
        refine q_call_g (t := 19) (dst := some 21) rfl rfl rfl (decide_eq_true hc6) (.func _) (.cons (.tmp rfl) Evs.nil) (HInv.static valid_Text.at_ valid_Text.body (valid_Text.snd  hp7)) ?_
        rintro _ _ ⟨rfl, rfl⟩
        try dsimp only [w0, w1, w2, w3]
        refine qS 22 rfl (ok_pick_tt · (.tmp rfl) (decide_eq_true hc6) (.tmp rfl)) ?_
        try dsimp only [w0, w1, w2, w3]
        exact J0_snd  h
      · refine q_skip (dst := some 20) (t := 19) rfl rfl rfl (decide_eq_false hc6) ?_
        refine q_skip (dst := some 21) (t := 19) rfl rfl rfl (decide_eq_false hc6) ?_
        try dsimp only [w0, w1, w2, w3]
        refine qS 22 rfl (ok_pick_ff · (.tmp rfl) (decide_eq_false hc6) (.bool _)) ?_
        try dsimp only [w0, w1, w2, w3]
        exact J0_snd  h
end
end rollcalllaw03_ValidCleans
end Go.Proofs.Ytpcdkecglgokoaa.X
